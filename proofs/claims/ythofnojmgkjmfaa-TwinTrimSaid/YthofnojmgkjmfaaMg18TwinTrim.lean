/- Several texts in one. No condition. -/
import Derived.Test.YthofnojmgkjmfaaMg17TwinTrim
import Derived.Test.YthofnojmgkjmfaaProg
set_option linter.unusedVariables false
set_option linter.unusedSimpArgs false
set_option maxRecDepth 20000
namespace Go.Proofs.Ythofnojmgkjmfaa
open Go.Proofs
theorem reach1_ok {s : Int} {c0 : List Bool} {c1 : List (List Int)} {v_2 : Value} {v_4 : Value} {b_1 : Nat} {b_3 : Nat} {b_7 : Nat} {Q : (List Bool) → Prop} {H : Heap} {Z : Nat → Prop} {L : List As} (n : Nat) (ih : ∀ {a0 : Int} {a1 : List Bool} {a2 : List (List Int)} {v_2 : Value} {v_4 : Value} {b_1 : Nat} {b_3 : Nat} {b_7 : Nat} {L : List As} (hn : (a1.count false) < n) (hp : StepsOk a2 a1.length ∧ 0 ≤ a0 ∧ a0 < a1.length) {H : Heap} {Z : Nat → Prop} (hO : Own H Z (box b_1 [v_2] 82 :: own fBool 4 v_2 a1 :: L)) (hf_5 : Fz (Rep.sl fInt.rep) L v_4 a2) (hb_6 : Bx L b_3 [v_4] 80) (hb_8 : Bx L b_7 [.func (.func 51) #[] #[ptr b_1 0, ptr b_3 0, ptr b_7 0]] 109), HC Try.prog 51 [.int .i64 a0, ptr b_1 0, ptr b_3 0, ptr b_7 0] H (fun v H' => ∃ (Z' : Nat → Prop) (v_9 : Value), (∀ b, Z b → Z' b) ∧ v = .tuple #[] ∧ Own H' Z' (box b_1 [v_9] 82 :: own fBool 4 v_9 ((visit a2 a0 a1)) :: L))) (hle : (c0.count false) ≤ n) (h : wp_reach1 s c0 c1 Q) (hO : Own H Z (box b_1 [v_2] 82 :: own fBool 4 v_2 c0 :: L)) (hf_5 : Fz (Rep.sl fInt.rep) L v_4 c1) (hb_6 : Bx L b_3 [v_4] 80) (hb_8 : Bx L b_7 [.func (.func 51) #[] #[ptr b_1 0, ptr b_3 0, ptr b_7 0]] 109) : HC Try.prog 51 [.int .i64 s, ptr b_1 0, ptr b_3 0, ptr b_7 0] H (fun v H' => ∃ (Z' : Nat → Prop) (m0 : List Bool) (v_9 : Value), (∀ b, Z b → Z' b) ∧ Q m0 ∧ v = .tuple #[] ∧ Own H' Z' (box b_1 [v_9] 82 :: own fBool 4 v_9 m0 :: L)) := by
 replace hO := hO.inZ
 replace hO := Fz.items [_, _, _] hf_5 hO
 unfold wp_reach1 at h
 refine hc_of_hw (N := 27) (rs := []) Try.func51 rfl rfl rfl rfl (hw_seq (hw_seq (hw_region (hl_v (v_load1 Try.isAgg82 rfl (Blk.cell (hO.box 2 rfl) rfl)) rfl (hl_v (v_move rfl) rfl ?_)))))
 obtain ⟨hs_10, h⟩ := h
 refine hl_v (v_ixL Try.underlying82 Try.sizeOf4 rfl rfl (hO.osl 3 rfl) hs_10) rfl (hl_v (v_loadSc Try.isAgg4 rfl (hO.osl 3 rfl) rfl hs_10 rfl) rfl (hl_nil (thenQ_n (hw_cond rfl (fun hc_11 => ?_) (fun hc_11 => ?_)))))
 ·replace h := ite_t h hc_11
  refine hw_ret (thenQ_r (ret_i _ ra_nil ?_))
  exact ⟨_, c0, v_2, (hO.inz 1 rfl), h, rfl, (Own.sel (Ls := [fz (Rep.sl fInt.rep) v_4 c1, inZ Z, box b_1 [v_2] 82, own fBool 4 v_2 c0]) (L := L) [2, 3] rfl hO)⟩
 ·replace h := ite_f h hc_11
  refine hw_skip (thenQ_n (hw_seq (hw_region (hl_v (v_load1 Try.isAgg82 rfl (Blk.cell (hO.box 2 rfl) rfl)) rfl (hl_v (v_move rfl) rfl (hl_v (v_ixL Try.underlying82 Try.sizeOf4 rfl rfl (hO.osl 3 rfl) hs_10) rfl (hl_s (o_set1 (x' := true) hO 3 rfl Try.sizeOf4 rfl rfl rfl rfl hs_10 rfl rfl) ?_)))))))
  rintro _ H_12 hO
  refine hl_nil (thenQ_n (hw_seq (hw_region (hl_v (v_load1 Try.isAgg80 rfl (Blk.cell (hb_6 _ _ (Own.tails [_, _, _, _] hO)) rfl)) rfl (hl_v (v_move rfl) rfl ?_)))))
  obtain ⟨hs_13, h⟩ := h
  refine hl_v (v_ixL Try.underlying80 Try.sizeOf81 rfl rfl (hO.fsl 0 rfl) hs_13) rfl ?_
  obtain ⟨v_14, ha_16, he_15⟩ := sl_row (hO.fsl 0 rfl) hs_13
  replace hO := Sl.item he_15 hO
  refine hl_v (v_load1 Try.isAgg81 rfl ha_16) rfl ?_
  have hln_17 := Sl.cap (hO.fsl 0 rfl)
  refine hl_v (v_lenL rfl Try.underlying81 rfl (hO.fsl 0 rfl)) rfl (hl_v (v_move rfl) rfl (hl_nil (thenQ_n (hw_sub _ (a_c 3 rfl (a_c 17 rfl (a_c 18 rfl (a_c 19 rfl a_n)))) (hw_block ?_)))))
  obtain ⟨I_19, h, hI_21⟩ := h
  refine hw_lp (fun n' g' H' => ∃ (l : List Bool) (k : Nat) (v_18 : Value) (Z' : Nat → Prop), n' = (c1.getD s.toNat default).length - k ∧ g' = [(3, ptr b_7 0), (17, v_14), (18, .int .i64 ((c1.getD s.toNat default).length : Int)), (19, .int .i64 (k : Int))] ∧ I_19 l k ∧ k ≤ (c1.getD s.toNat default).length ∧ Own H' Z' (fz fInt.rep v_14 (c1.getD s.toNat default) :: fz (Rep.sl fInt.rep) v_4 c1 :: inZ Z :: box b_1 [v_18] 82 :: own fBool 4 v_18 l :: L)) _ _ (a_c 3 rfl (a_c 17 rfl (a_c 18 rfl (a_c 19 rfl a_n)))) ⟨(c0.set s.toNat true), 0, v_2, _, rfl, rfl, h, by omega, hO⟩ ?_
  rintro _ _ H_22 ⟨l, k, v_18, Z_23, rfl, rfl, h, hb_24, hO⟩
  replace h := hI_21 l k h hb_24
  refine hw_seq (hw_region (hl_v (v_lss rfl rfl) rfl (hl_nil (thenQ_n (hw_seq (hw_cond rfl (fun hc_25 => ?_) (fun hc_25 => ?_)))))))
  ·replace h := ite_t h hc_25
   refine hw_skip (thenQ_n (hw_seq (hw_block (hw_seq (hw_region (hl_v (v_ixL Try.underlying81 Try.sizeOf3 rfl rfl (hO.fsl 0 rfl) (by exact ⟨Int.natCast_nonneg _, of_decide_eq_true hc_25⟩)) rfl (hl_v (v_loadSc Try.isAgg3 rfl (hO.fsl 0 rfl) rfl (by exact ⟨Int.natCast_nonneg _, of_decide_eq_true hc_25⟩) rfl) rfl (hl_v (v_assign rfl) rfl (hl_nil (thenQ_n (hw_region (hl_v (v_load1 Try.isAgg109 rfl (Blk.cell (hb_8 _ _ (Own.tails [_, _, _, _, _] hO)) rfl)) rfl (hl_v (v_move rfl) rfl ?_)))))))))))))
   obtain ⟨hs_26, h⟩ := h
   refine hl_h (h_callv (fs := []) (cs := [ptr b_1 0, ptr b_3 0, ptr b_7 0]) Try.call51 rfl (evs_cons rfl evs_nil) (ih (a0 := ((c1.getD s.toNat default).getD k default)) (a1 := l) (a2 := c1) (L := fz fInt.rep v_14 (c1.getD s.toNat default) :: fz (Rep.sl fInt.rep) v_4 c1 :: inZ Z :: L) (Nat.lt_of_lt_of_le hs_26.1 hle) hs_26.2 (Own.sel (Ls := [fz fInt.rep v_14 (c1.getD s.toNat default), fz (Rep.sl fInt.rep) v_4 c1, inZ Z, box b_1 [v_18] 82, own fBool 4 v_18 l]) (L := L) [3, 4, 0, 1, 2] rfl hO) (Fz.of (i := 1) rfl) (Bx.tails [_, _, _] hb_6) (Bx.tails [_, _, _] hb_8))) rfl ?_
   rintro _ H_27 ⟨Z_28, v_30, _, rfl, hO⟩
   refine hl_nil (blockQ_n (thenQ_n (hw_region (hl_v (v_add rfl rfl (by have hq := of_decide_eq_true hc_25; have hm := hln_17; constructor <;> omega)) rfl (hl_v (v_move rfl) rfl (hl_nil (thenQ_n ?_)))))))
   exact ⟨_, _, (a_c 3 rfl (a_c 17 rfl (a_c 18 rfl (a_c 19 rfl a_n)))), ⟨(visit c1 ((c1.getD s.toNat default).getD k default) l), k + 1, v_30, _, rfl, rfl, h, (by have hq := of_decide_eq_true hc_25; omega), (Own.sel (Ls := [box b_1 [v_30] 82, own fBool 4 v_30 (visit c1 ((c1.getD s.toNat default).getD k default) l), fz fInt.rep v_14 (c1.getD s.toNat default), fz (Rep.sl fInt.rep) v_4 c1, inZ Z]) (L := L) [2, 3, 4, 0, 1] rfl hO)⟩, (by have hq := of_decide_eq_true hc_25; omega)⟩
  ·replace h := ite_f h hc_25
   refine hw_exit (thenQ_e (thenQ_e (blockQ_hit (ret_n _ ra_nil ?_))))
   exact ⟨_, l, v_18, (hO.inz 2 rfl), h, rfl, (Own.sel (Ls := [fz fInt.rep v_14 (c1.getD s.toNat default), fz (Rep.sl fInt.rep) v_4 c1, inZ Z, box b_1 [v_18] 82, own fBool 4 v_18 l]) (L := L) [3, 4] rfl hO)⟩
theorem reach1_spec {a0 : Int} {a1 : List Bool} {a2 : List (List Int)} {v_2 : Value} {v_4 : Value} {b_1 : Nat} {b_3 : Nat} {b_7 : Nat} {L : List As} (hp : StepsOk a2 a1.length ∧ 0 ≤ a0 ∧ a0 < a1.length) {H : Heap} {Z : Nat → Prop} (hO : Own H Z (box b_1 [v_2] 82 :: own fBool 4 v_2 a1 :: L)) (hf_5 : Fz (Rep.sl fInt.rep) L v_4 a2) (hb_6 : Bx L b_3 [v_4] 80) (hb_8 : Bx L b_7 [.func (.func 51) #[] #[ptr b_1 0, ptr b_3 0, ptr b_7 0]] 109) : HC Try.prog 51 [.int .i64 a0, ptr b_1 0, ptr b_3 0, ptr b_7 0] H (fun v H' => ∃ (Z' : Nat → Prop) (v_9 : Value), (∀ b, Z b → Z' b) ∧ v = .tuple #[] ∧ Own H' Z' (box b_1 [v_9] 82 :: own fBool 4 v_9 ((visit a2 a0 a1)) :: L)) := by
  have key : ∀ n : Nat, ∀ {a0 : Int} {a1 : List Bool} {a2 : List (List Int)} {v_2 : Value} {v_4 : Value} {b_1 : Nat} {b_3 : Nat} {b_7 : Nat} {L : List As} (hn : (a1.count false) < n) (hp : StepsOk a2 a1.length ∧ 0 ≤ a0 ∧ a0 < a1.length) {H : Heap} {Z : Nat → Prop} (hO : Own H Z (box b_1 [v_2] 82 :: own fBool 4 v_2 a1 :: L)) (hf_5 : Fz (Rep.sl fInt.rep) L v_4 a2) (hb_6 : Bx L b_3 [v_4] 80) (hb_8 : Bx L b_7 [.func (.func 51) #[] #[ptr b_1 0, ptr b_3 0, ptr b_7 0]] 109), HC Try.prog 51 [.int .i64 a0, ptr b_1 0, ptr b_3 0, ptr b_7 0] H (fun v H' => ∃ (Z' : Nat → Prop) (v_9 : Value), (∀ b, Z b → Z' b) ∧ v = .tuple #[] ∧ Own H' Z' (box b_1 [v_9] 82 :: own fBool 4 v_9 ((visit a2 a0 a1)) :: L)) := by
    intro n
    induction n with
    | zero => intro a0 a1 a2 v_2 v_4 b_1 b_3 b_7 L hn; exact absurd hn (Nat.not_lt_zero _)
    | succ n ih =>
      intro a0 a1 a2 v_2 v_4 b_1 b_3 b_7 L hn hp H Z hO hf_5 hb_6 hb_8
      refine (reach1_ok (s := a0) (c0 := a1) (c1 := a2) n ih (Nat.lt_succ_iff.1 hn) (@reach1_wp a0 a1 a2 hp) hO hf_5 hb_6 hb_8).mono ?_
      rintro v H' ⟨Z', m0, v_9, hz, hq, hv, hO'⟩
      obtain rfl := hq
      exact ⟨Z', v_9, hz, hv, hO'⟩
  exact key _ (Nat.lt_succ_self _) hp hO hf_5 hb_6 hb_8

theorem reachP_ok {n : Int} {xfrom : List GTip} {steps : List (List Int)} {v_1 : Value} {v_3 : Value} {Q : (List Bool) → Prop} {H : Heap} {Z : Nat → Prop} {L : List As} (h : wp_reachP n xfrom steps Q) (hO : Own H Z (L)) (hr_2 : Rd fGTip.rep L v_1 xfrom) (hf_4 : Fz (Rep.sl fInt.rep) L v_3 steps) : HC Try.prog 37 [.int .i64 n, v_1, v_3] H (fun v H' => ∃ (Z' : Nat → Prop) (r0 : List Bool) (v_5 : Value), (∀ b, Z b → Z' b) ∧ Q r0 ∧ v = v_5 ∧ Own H' Z' (own fBool 4 v_5 r0 :: L)) := by
 replace hO := hO.inZ
 replace hO := Fz.items [_] hf_4 hO
 unfold wp_reachP at h
 refine hc_of_hw (N := 26) (rs := [(.tmp 6)]) Try.func37 rfl rfl rfl rfl (hw_seq (hw_region (hl_h (o_box (cs := [v_3]) hO rfl (by obtain ⟨_, _, _, hw⟩ := Sl.sh (hO.fsl 0 rfl); rw [hw]; rfl)) rfl ?_)))
 rintro _ H_6 ⟨b_7, rfl, hO⟩
 refine hl_v (v_assign rfl) rfl (hl_nil (thenQ_n (hw_seq (hw_region (hl_v (v_move rfl) rfl ?_)))))
 obtain ⟨hs_10, h⟩ := h
 refine hl_h (o_makeSlice (g := fBool) (d := false) hO Try.underlying82 Try.type4 rfl rfl rfl rfl rfl rfl hs_10.1 hs_10.2.1 hs_10.2.2) rfl ?_
 rintro v_9 H_8 hO
 refine hl_h (o_alloc (cs := [.slice none 0 0]) hO Try.zeroValue82 rfl) rfl ?_
 rintro _ H_11 ⟨b_12, rfl, hO⟩
 refine hl_s (o_store1 hO 0 rfl Try.sizeOf82 rfl rfl rfl (Sl.one (hO.osl 1 rfl))) ?_
 rintro _ H_13 hO
 refine hl_nil (thenQ_n (hw_seq (hw_region (hl_h (o_alloc (cs := [.nilFunc]) hO Try.zeroValue109 rfl) rfl ?_))))
 rintro _ H_14 ⟨b_15, rfl, hO⟩
 refine hl_nil (thenQ_n (hw_seq (hw_region (hl_v (v_makeFunc (us := []) (vs := [_, _, _]) rfl rfl) rfl (hl_s (o_store1 hO 0 rfl Try.sizeOf109 rfl rfl rfl rfl) ?_)))))
 rintro _ H_16 hO
 refine hl_nil (thenQ_n (hw_seq (hw_seq (hw_region (hl_v (v_move rfl) rfl ?_)))))
 have hln_17 := Sl.cap (Rd.sl hr_2 (Own.tails [_, _, _, _, _, _] hO))
 refine hl_v (v_lenL rfl Try.underlying25 rfl (Rd.sl hr_2 (Own.tails [_, _, _, _, _, _] hO))) rfl (hl_v (v_move rfl) rfl (hl_nil (thenQ_n (hw_block ?_))))
 obtain ⟨I_19, h, hI_21⟩ := h
 refine hw_lp (fun n' g' H' => ∃ (xin : List Bool) (k : Nat) (v_18 : Value) (Z' : Nat → Prop), n' = xfrom.length - k ∧ g' = [(7, ptr b_12 0), (8, ptr b_15 0), (14, v_1), (15, .int .i64 (xfrom.length : Int)), (16, .int .i64 (k : Int))] ∧ I_19 xin k ∧ k ≤ xfrom.length ∧ Own H' Z' (box b_15 [.func (.func 51) #[] #[ptr b_12 0, ptr b_7 0, ptr b_15 0]] 109 :: box b_12 [v_18] 82 :: own fBool 4 v_18 xin :: box b_7 [v_3] 80 :: fz (Rep.sl fInt.rep) v_3 steps :: inZ Z :: L)) _ _ (a_c 7 rfl (a_c 8 rfl (a_c 14 rfl (a_c 15 rfl (a_c 16 rfl a_n))))) ⟨(List.replicate n.toNat false), 0, v_9, _, rfl, rfl, h, by omega, hO⟩ ?_
 rintro _ _ H_22 ⟨xin, k, v_18, Z_23, rfl, rfl, h, hb_24, hO⟩
 replace h := hI_21 xin k h hb_24
 refine hw_seq (hw_region (hl_v (v_lss rfl rfl) rfl (hl_nil (thenQ_n (hw_seq (hw_cond rfl (fun hc_25 => ?_) (fun hc_25 => ?_)))))))
 ·replace h := ite_t h hc_25
  refine hw_skip (thenQ_n (hw_seq (hw_block (hw_seq (hw_region (hl_v (v_ixL Try.underlying25 Try.sizeOf45 rfl rfl (Rd.sl hr_2 (Own.tails [_, _, _, _, _, _] hO)) (by exact ⟨Int.natCast_nonneg _, of_decide_eq_true hc_25⟩)) rfl (hl_v (v_loadFl Try.isAgg45 Try.sizeOf45 rfl (Rd.sl hr_2 (Own.tails [_, _, _, _, _, _] hO)) rfl (by exact ⟨Int.natCast_nonneg _, of_decide_eq_true hc_25⟩)) rfl (hl_h (o_alloc (cs := (fGTip.enc (⟨(0 : Int), ([] : List UInt8)⟩ : GTip))) hO Try.zeroValue45 rfl) rfl ?_))))))))
  rintro _ H_26 ⟨b_27, rfl, hO⟩
  refine hl_s (o_storeA (us := (fGTip.enc (xfrom.getD k default))) hO 0 rfl Try.sizeOf45 rfl rfl rfl rfl (by intro u hu; exact (fGTip).one _ u hu)) ?_
  rintro _ H_28 hO
  refine hl_nil (thenQ_n (hw_region (hl_v (v_load1 Try.isAgg109 rfl (Blk.cell (hO.box 1 rfl) rfl)) rfl (hl_v (v_fieldA Try.underlying45 rfl Try.sizeOf3 rfl) rfl (hl_v (v_load1 Try.isAgg3 rfl (Blk.cell (hO.box 0 rfl) rfl)) rfl ?_)))))
  obtain ⟨hs_29, h⟩ := h
  refine hl_h (h_callv (fs := []) (cs := [ptr b_12 0, ptr b_7 0, ptr b_15 0]) Try.call51 rfl (evs_cons rfl evs_nil) (reach1_spec (a0 := (xfrom.getD k default).State) (a1 := xin) (a2 := steps) (L := box b_27 (fGTip.enc (xfrom.getD k default)) 45 :: box b_15 [.func (.func 51) #[] #[ptr b_12 0, ptr b_7 0, ptr b_15 0]] 109 :: box b_7 [v_3] 80 :: fz (Rep.sl fInt.rep) v_3 steps :: inZ Z :: L) hs_29 (Own.sel (Ls := [box b_27 (fGTip.enc (xfrom.getD k default)) 45, box b_15 [.func (.func 51) #[] #[ptr b_12 0, ptr b_7 0, ptr b_15 0]] 109, box b_12 [v_18] 82, own fBool 4 v_18 xin, box b_7 [v_3] 80, fz (Rep.sl fInt.rep) v_3 steps, inZ Z]) (L := L) [2, 3, 0, 1, 4, 5, 6] rfl hO) (Fz.of (i := 3) rfl) (Bx.of (i := 2) rfl) (Bx.of (i := 1) rfl))) rfl ?_
  rintro _ H_30 ⟨Z_31, v_33, _, rfl, hO⟩
  refine hl_nil (blockQ_n (thenQ_n (hw_region (hl_v (v_add rfl rfl (by have hq := of_decide_eq_true hc_25; have hm := hln_17; constructor <;> omega)) rfl (hl_v (v_move rfl) rfl (hl_nil (thenQ_n ?_)))))))
  exact ⟨_, _, (a_c 7 rfl (a_c 8 rfl (a_c 14 rfl (a_c 15 rfl (a_c 16 rfl a_n))))), ⟨(visit steps ((xfrom.getD k default).State) xin), k + 1, v_33, _, rfl, rfl, h, (by have hq := of_decide_eq_true hc_25; omega), (Own.sel (Ls := [box b_12 [v_33] 82, own fBool 4 v_33 (visit steps ((xfrom.getD k default).State) xin), box b_27 (fGTip.enc (xfrom.getD k default)) 45, box b_15 [.func (.func 51) #[] #[ptr b_12 0, ptr b_7 0, ptr b_15 0]] 109, box b_7 [v_3] 80, fz (Rep.sl fInt.rep) v_3 steps, inZ Z]) (L := L) [3, 0, 1, 4, 5, 6] rfl hO)⟩, (by have hq := of_decide_eq_true hc_25; omega)⟩
 ·replace h := ite_f h hc_25
  refine hw_exit (thenQ_e (thenQ_e (blockQ_hit (thenQ_n (hw_seq (hw_region (hl_v (v_load1 Try.isAgg82 rfl (Blk.cell (hO.box 1 rfl) rfl)) rfl (hl_v (v_assign rfl) rfl (hl_nil (thenQ_n (hw_ret (ret_i _ (ra_t rfl ra_nil) ?_))))))))))))
  exact ⟨_, xin, v_18, (hO.inz 5 rfl), h, rfl, (Own.sel (Ls := [box b_15 [.func (.func 51) #[] #[ptr b_12 0, ptr b_7 0, ptr b_15 0]] 109, box b_12 [v_18] 82, own fBool 4 v_18 xin, box b_7 [v_3] 80, fz (Rep.sl fInt.rep) v_3 steps, inZ Z]) (L := L) [2] rfl hO)⟩
theorem reachP_spec {a0 : Int} {a1 : List GTip} {a2 : List (List Int)} {v_1 : Value} {v_3 : Value} {L : List As} (hp : StepsOk a2 a0.toNat ∧ 0 ≤ a0 ∧ a0 ≤ 1024 ∧ ∀ x ∈ a1, 0 ≤ x.State ∧ x.State < a0) {H : Heap} {Z : Nat → Prop} (hO : Own H Z (L)) (hr_2 : Rd fGTip.rep L v_1 a1) (hf_4 : Fz (Rep.sl fInt.rep) L v_3 a2) : HC Try.prog 37 [.int .i64 a0, v_1, v_3] H (fun v H' => ∃ (Z' : Nat → Prop) (v_5 : Value), (∀ b, Z b → Z' b) ∧ v = v_5 ∧ Own H' Z' (own fBool 4 v_5 ((reachL a0 a1 a2)) :: L)) := by
  refine (reachP_ok (n := a0) (xfrom := a1) (steps := a2) (@reachP_wp a0 a1 a2 hp) hO hr_2 hf_4).mono ?_
  rintro v H' ⟨Z', r0, v_5, hz, hq, hv, hO'⟩
  obtain rfl := hq
  exact ⟨Z', v_5, hz, hv, hO'⟩

theorem useful1_ok {c0 : GFst} {c1 : List Bool} {c2 : List Bool} {v_3 : Value} {v_5 : Value} {v_7 : Value} {v_11 : Value} {v_15 : Value} {b_2 : Nat} {b_10 : Nat} {b_14 : Nat} {X : Nat → Int → Prop} {Q : Nat → Prop} {lab_1 : Nat} {J : Nat → As} {Jx : As} {L : List As} (hY : ∀ k x, X k x → ∀ (F : List As) Z G, Own G Z (F ++ J k :: L) → HY Try.prog lab_1 ((fun x => [.int .i64 x]) x) G (fun v G' => ∃ b Z', v = .bool b ∧ Own G' Z' (F ++ (if b then J (k + 1) else Jx) :: L))) (h : wp_useful1 c0 c1 c2 X Q) {H : Heap} {Z : Nat → Prop} (hO : Own H Z (J 0 :: L)) (hf_4 : Fz fGTip.rep L v_3 c0.Starts) (hf_6 : Fz fGTip.rep L v_5 c0.Ends) (hf_8 : Fz fGArc.rep L v_7 c0.Arcs) (hb_9 : Bx L b_2 [.int .i64 c0.States, v_3, v_5, v_7] 28) (hf_12 : Fz fBool.rep L v_11 c1) (hb_13 : Bx L b_10 [v_11] 82) (hf_16 : Fz fBool.rep L v_15 c2) (hb_17 : Bx L b_14 [v_15] 82) : HC Try.prog 38 [.func (.yield lab_1) #[] #[], ptr b_2 0, ptr b_10 0, ptr b_14 0] H (fun _ G => (∃ k, Q k ∧ ∃ Z', Own G Z' (J k :: L)) ∨ ∃ Z', Own G Z' (Jx :: L)) := by
 replace hO := hO.inZ
 replace hO := Fz.items [_, _] hf_4 hO
 replace hO := Fz.items [_, _, _] hf_6 hO
 replace hO := Fz.items [_, _, _, _] hf_8 hO
 replace hO := Fz.items [_, _, _, _, _] hf_12 hO
 replace hO := Fz.items [_, _, _, _, _, _] hf_16 hO
 unfold wp_useful1 at h
 refine hc_of_hw (N := 28) (rs := []) Try.func38 rfl rfl rfl rfl (hw_seq (hw_region (hl_v (v_fieldA Try.underlying28 rfl Try.sizeOf3 rfl) rfl (hl_v (v_load1 Try.isAgg3 rfl (Blk.cell (hb_9 _ _ (Own.tails [_, _, _, _, _, _, _] hO)) rfl)) rfl (hl_v (v_move rfl) rfl (hl_nil (thenQ_n (hw_block ?_))))))))
 obtain ⟨I_18, h, hI_20⟩ := h
 refine hw_lp (fun n' g' H' => ∃ (k : Nat) (y : Nat) (Z' : Nat → Prop), n' = (c0.States - (k : Int)).toNat ∧ g' = [(0, .func (.yield lab_1) #[] #[]), (2, ptr b_10 0), (3, ptr b_14 0), (7, .int .i64 c0.States), (8, .int .i64 (k : Int))] ∧ I_18 k y ∧ Own H' Z' (fz fBool.rep v_15 c2 :: fz fBool.rep v_11 c1 :: inZ Z :: J y :: L)) _ _ (a_c 0 rfl (a_c 2 rfl (a_c 3 rfl (a_c 7 rfl (a_c 8 rfl a_n))))) ⟨0, 0, _, rfl, rfl, h, (Own.sel (Ls := [fz fBool.rep v_15 c2, fz fBool.rep v_11 c1, fz fGArc.rep v_7 c0.Arcs, fz fGTip.rep v_5 c0.Ends, fz fGTip.rep v_3 c0.Starts, inZ Z, J 0]) (L := L) [0, 1, 5, 6] rfl hO)⟩ ?_
 rintro _ _ H_21 ⟨k, y, Z_22, rfl, rfl, h, hO⟩
 replace h := hI_20 k y h
 refine hw_seq (hw_region (hl_v (v_lss rfl rfl) rfl (hl_nil (thenQ_n (hw_seq (hw_cond rfl (fun hc_24 => ?_) (fun hc_24 => ?_)))))))
 ·replace h := ite_t h hc_24
  refine hw_skip (thenQ_n (hw_seq (hw_block (hw_seq (hw_region (hl_v (v_move rfl) rfl (hl_v (v_assign rfl) rfl (hl_nil (thenQ_n (hw_seq (hw_region (hl_v (v_load1 Try.isAgg82 rfl (Blk.cell (hb_13 _ _ (Own.tails [_, _, _, _] hO)) rfl)) rfl (hl_v (v_move rfl) rfl ?_)))))))))))))
  obtain ⟨hs_25, h⟩ := h
  refine hl_v (v_ixL Try.underlying82 Try.sizeOf4 rfl rfl (hO.fsl 1 rfl) hs_25) rfl (hl_v (v_loadSc Try.isAgg4 rfl (hO.fsl 1 rfl) rfl hs_25 rfl) rfl (hl_v (v_move rfl) rfl (hl_g rfl rfl (fun hg => (v_load1 Try.isAgg82 rfl (Blk.cell (hb_17 _ _ (Own.tails [_, _, _, _] hO)) rfl))) rfl (hl_g rfl rfl (fun hg => (v_move rfl)) rfl ?_))))
  obtain ⟨hs_26, h⟩ := h
  refine hl_g rfl rfl (fun hg => (v_ixL Try.underlying82 Try.sizeOf4 (gv_ok rfl hg) (gv_ok rfl hg) (hO.fsl 0 rfl) (hs_26 (gb_bool hg)))) rfl ?_
  obtain ⟨hs_27, h⟩ := h
  refine hl_g rfl rfl (fun hg => (v_loadSc Try.isAgg4 (gv_ok rfl hg) (hO.fsl 0 rfl) rfl (hs_27 (gb_bool hg)) rfl)) rfl (hl_v (v_and rfl rfl) rfl (hl_v (v_move rfl) rfl (hl_bool (s := 21) rfl (fun hc_28 => ?_) (fun hc_28 => ?_))))
  ·replace h := ite_t h hc_28
   refine hl_g rfl rfl (fun hg => (v_move rfl)) rfl (hl_g rfl rfl (fun hg => (v_move rfl)) rfl ?_)
   obtain ⟨hs_29, h⟩ := h
   refine hl_gy rfl rfl rfl (y_call rfl (evs_cons rfl evs_nil) (hY y (k : Int) hs_29 [fz fBool.rep v_15 c2, fz fBool.rep v_11 c1, inZ Z] _ _ hO)) rfl ?_
   rintro _ H_31 ⟨b_30, Z_32, rfl, hO⟩
   cases b_30
   ·replace hO : Own H_31 Z_32 (fz fBool.rep v_15 c2 :: fz fBool.rep v_11 c1 :: inZ Z :: Jx :: L) := hO
    replace h := h.2
    refine hl_g rfl rfl (fun hg => (v_not rfl)) rfl (hl_v (v_and rfl rfl) rfl (hl_nil (thenQ_n (hw_sub _ (a_c 0 rfl (a_c 2 rfl (a_c 3 rfl (a_c 7 rfl (a_c 8 rfl (a_c 26 rfl a_n)))))) (hw_cond_t rfl (hw_ret (blockQ_r (thenQ_r (thenQ_r (blockQ_r (ret_i _ ra_nil ?_)))))))))))
    exact .inr ⟨_, (Own.sel (Ls := [fz fBool.rep v_15 c2, fz fBool.rep v_11 c1, inZ Z, Jx]) (L := L) [3] rfl hO)⟩
   ·replace hO : Own H_31 Z_32 (fz fBool.rep v_15 c2 :: fz fBool.rep v_11 c1 :: inZ Z :: J (y + 1) :: L) := hO
    replace h := h.1
    refine hl_g rfl rfl (fun hg => (v_not rfl)) rfl (hl_v (v_and rfl rfl) rfl (hl_nil (thenQ_n (hw_sub _ (a_c 0 rfl (a_c 2 rfl (a_c 3 rfl (a_c 7 rfl (a_c 8 rfl (a_c 26 rfl a_n)))))) (hw_cond_f rfl (hw_skip (blockQ_n (thenQ_n (hw_region ?_)))))))))
    obtain ⟨hs_33, h⟩ := h
    refine hl_v (v_add rfl rfl hs_33) rfl (hl_v (v_move rfl) rfl (hl_nil (thenQ_n ?_)))
    exact ⟨_, _, (a_c 0 rfl (a_c 2 rfl (a_c 3 rfl (a_c 7 rfl (a_c 8 rfl a_n))))), ⟨k + 1, (y + 1), _, rfl, rfl, h, hO⟩, (by have hq := of_decide_eq_true hc_24; omega)⟩
  ·replace h := ite_f h hc_28
   refine hl_gf rfl rfl rfl rfl (hl_gf rfl rfl rfl rfl (hl_gf rfl rfl rfl rfl (hl_gf rfl rfl rfl rfl (hl_v (v_and (b := true) rfl rfl) rfl (hl_nil (thenQ_n (hw_sub _ (a_c 0 rfl (a_c 2 rfl (a_c 3 rfl (a_c 7 rfl (a_c 8 rfl (a_c 26 rfl a_n)))))) (hw_cond_f rfl (hw_skip (blockQ_n (thenQ_n (hw_region ?_))))))))))))
   obtain ⟨hs_34, h⟩ := h
   refine hl_v (v_add rfl rfl hs_34) rfl (hl_v (v_move rfl) rfl (hl_nil (thenQ_n ?_)))
   exact ⟨_, _, (a_c 0 rfl (a_c 2 rfl (a_c 3 rfl (a_c 7 rfl (a_c 8 rfl a_n))))), ⟨k + 1, y, _, rfl, rfl, h, hO⟩, (by have hq := of_decide_eq_true hc_24; omega)⟩
 ·replace h := ite_f h hc_24
  refine hw_exit (thenQ_e (thenQ_e (blockQ_hit (ret_n _ ra_nil ?_))))
  exact .inl ⟨_, h, _, (Own.sel (Ls := [fz fBool.rep v_15 c2, fz fBool.rep v_11 c1, inZ Z, J y]) (L := L) [3] rfl hO)⟩
theorem useful1_spec {a0 : GFst} {a1 : List Bool} {a2 : List Bool} {v_3 : Value} {v_5 : Value} {v_7 : Value} {v_11 : Value} {v_15 : Value} {b_2 : Nat} {b_10 : Nat} {b_14 : Nat} {L : List As} (hp : a1.length = a0.States.toNat ∧ a2.length = a0.States.toNat ∧ 0 ≤ a0.States ∧ a0.States ≤ 1024) (hf_4 : Fz fGTip.rep L v_3 a0.Starts) (hf_6 : Fz fGTip.rep L v_5 a0.Ends) (hf_8 : Fz fGArc.rep L v_7 a0.Arcs) (hb_9 : Bx L b_2 [.int .i64 a0.States, v_3, v_5, v_7] 28) (hf_12 : Fz fBool.rep L v_11 a1) (hb_13 : Bx L b_10 [v_11] 82) (hf_16 : Fz fBool.rep L v_15 a2) (hb_17 : Bx L b_14 [v_15] 82) : ItO Try.prog 38 [ptr b_2 0, ptr b_10 0, ptr b_14 0] L (fun x => [.int .i64 x]) (usefulL a0.States a1 a2) :=
  fun lab J Jx hY Z G hO => (useful1_ok (c0 := a0) (c1 := a1) (c2 := a2) (X := fun k x => k < (usefulL a0.States a1 a2).length ∧ (usefulL a0.States a1 a2).getD k default = x) (Q := fun k => k = (usefulL a0.States a1 a2).length) (fun k x hX => hY k x hX.1 hX.2) (@useful1_wp a0 a1 a2 hp) hO hf_4 hf_6 hf_8 hb_9 hf_12 hb_13 hf_16 hb_17).mono (fun v G' h => by
    rcases h with ⟨k, rfl, Z', h⟩ | ⟨Z', h⟩
    · exact ⟨Z', .inl h⟩
    · exact ⟨Z', .inr h⟩)

theorem usefulP_ok {t : GFst} {v_1 : Value} {v_3 : Value} {v_5 : Value} {Q : (GFst × (List Bool) × (List Bool)) → Prop} {H : Heap} {Z : Nat → Prop} {L : List As} (h : wp_usefulP t Q) (hO : Own H Z (L)) (hf_2 : Fz fGTip.rep L v_1 t.Starts) (hf_4 : Fz fGTip.rep L v_3 t.Ends) (hf_6 : Fz fGArc.rep L v_5 t.Arcs) : HC Try.prog 23 [.agg [.int .i64 t.States, v_1, v_3, v_5].toArray] H (fun v H' => ∃ (Z' : Nat → Prop) (r0 : GFst × (List Bool) × (List Bool)) (v_8 : Value) (v_10 : Value) (v_12 : Value) (v_15 : Value) (v_18 : Value) (b_7 : Nat) (b_14 : Nat) (b_17 : Nat), (∀ b, Z b → Z' b) ∧ Q r0 ∧ v = .func (.func 38) #[] #[ptr b_7 0, ptr b_14 0, ptr b_17 0] ∧ Own H' Z' (box b_7 [.int .i64 r0.1.States, v_8, v_10, v_12] 28 :: box b_14 [v_15] 82 :: box b_17 [v_18] 82 :: fz fGTip.rep v_8 r0.1.Starts :: fz fGTip.rep v_10 r0.1.Ends :: fz fGArc.rep v_12 r0.1.Arcs :: fz fBool.rep v_15 r0.2.1 :: fz fBool.rep v_18 r0.2.2 :: L)) := by
 replace hO := hO.inZ
 replace hO := Fz.items [_] hf_2 hO
 replace hO := Fz.items [_, _] hf_4 hO
 replace hO := Fz.items [_, _, _] hf_6 hO
 unfold wp_usefulP at h
 refine hc_of_hw (N := 62) (rs := [(.tmp 2)]) Try.func23 rfl rfl rfl rfl (hw_seq (hw_region (hl_h (o_box (cs := [.int .i64 t.States, v_1, v_3, v_5]) hO rfl rfl) rfl ?_)))
 rintro _ H_20 ⟨b_21, rfl, hO⟩
 refine hl_v (v_assign rfl) rfl (hl_nil (thenQ_n (hw_seq (hw_hj (fun f' H' => ∃ (v_23 : Value) (v_26 : Value) (Z' : Nat → Prop), AllIn f' [(1, ptr b_21 0), (3, v_23), (4, v_26)] ∧ Own H' Z' (ownN fInt 81 3 v_26 (List.replicate t.States.toNat []) :: ownN fInt 81 3 v_23 (List.replicate t.States.toNat []) :: box b_21 [.int .i64 t.States, v_1, v_3, v_5] 28 :: fz fGArc.rep v_5 t.Arcs :: fz fGTip.rep v_3 t.Ends :: fz fGTip.rep v_1 t.Starts :: inZ Z :: L)) ?_ ?_))))
 ·refine hw_held2 7 (fun H' => ∃ Z' : Nat → Prop, Own H' Z' (box b_21 [.int .i64 t.States, v_1, v_3, v_5] 28 :: fz fGArc.rep v_5 t.Arcs :: fz fGTip.rep v_3 t.Ends :: fz fGTip.rep v_1 t.Starts :: inZ Z :: L)) (.step 0 false (.step 1 false (.step 3 false (.step 4 false (.two 2 5 (.step 6 false (.step 5 true .done)) (.step 2 true (.step 6 false .done))))))) (.step 7 true .done) Try.mixed (by kernel_rfl) ⟨_, hO⟩ (hd_v rfl (fun _ _ => (v_fieldA Try.underlying28 rfl Try.sizeOf3 rfl)) rfl (hd_v rfl (fun H' hS => by obtain ⟨Z', hO⟩ := hS; exact (v_load1 Try.isAgg3 rfl (Blk.cell (hO.box 0 rfl) rfl))) rfl (hd_v rfl (fun _ _ => (v_fieldA Try.underlying28 rfl Try.sizeOf3 rfl)) rfl (hd_v rfl (fun H' hS => by obtain ⟨Z', hO⟩ := hS; exact (v_load1 Try.isAgg3 rfl (Blk.cell (hO.box 0 rfl) rfl))) rfl (hd_two ?_ ?_)))))
  ·obtain ⟨hs_24, h⟩ := h
   refine hd_h (o_makeN (g := fInt) (e' := 3) hO Try.underlying80 Try.type81 rfl rfl rfl rfl hs_24.1 hs_24.2.1 hs_24.2.2) (by rintro v_23 H_22 hO; exact ⟨_, (Own.sel (Ls := [ownN fInt 81 3 v_23 (List.replicate t.States.toNat []), box b_21 [.int .i64 t.States, v_1, v_3, v_5] 28, fz fGArc.rep v_5 t.Arcs, fz fGTip.rep v_3 t.Ends, fz fGTip.rep v_1 t.Starts, inZ Z]) (L := L) [1, 2, 3, 4, 5] rfl hO)⟩) rfl ?_
   rintro v_23 H_22 hO
   refine hd_v rfl (fun _ _ => (v_assign rfl)) rfl (hd_h (o_makeN (g := fInt) (e' := 3) hO Try.underlying80 Try.type81 rfl rfl rfl rfl hs_24.1 hs_24.2.1 hs_24.2.2) (by rintro v_26 H_25 hO; exact ⟨_, (Own.sel (Ls := [ownN fInt 81 3 v_26 (List.replicate t.States.toNat []), ownN fInt 81 3 v_23 (List.replicate t.States.toNat []), box b_21 [.int .i64 t.States, v_1, v_3, v_5] 28, fz fGArc.rep v_5 t.Arcs, fz fGTip.rep v_3 t.Ends, fz fGTip.rep v_1 t.Starts, inZ Z]) (L := L) [2, 3, 4, 5, 6] rfl hO)⟩) rfl ?_)
   rintro v_26 H_25 hO
   refine hd_nil (hd_h (OpV.toH (v_assign rfl)) (fun _ _ hR => trivial) rfl ?_)
   rintro vv HH ⟨hvv, hHH⟩
   obtain rfl := hvv.symm
   obtain rfl := hHH.symm
   refine hd_nil ?_
   exact ⟨rfl, v_23, v_26, _, (a_c 1 rfl (a_c 3 rfl (a_c 4 rfl a_n))), hO⟩
  ·obtain ⟨hs_29, h⟩ := h
   refine hd_h (o_makeN (g := fInt) (e' := 3) hO Try.underlying80 Try.type81 rfl rfl rfl rfl hs_29.1 hs_29.2.1 hs_29.2.2) (by rintro v_28 H_27 hO; exact ⟨_, (Own.sel (Ls := [ownN fInt 81 3 v_28 (List.replicate t.States.toNat []), box b_21 [.int .i64 t.States, v_1, v_3, v_5] 28, fz fGArc.rep v_5 t.Arcs, fz fGTip.rep v_3 t.Ends, fz fGTip.rep v_1 t.Starts, inZ Z]) (L := L) [1, 2, 3, 4, 5] rfl hO)⟩) rfl ?_
   rintro v_28 H_27 hO
   refine hd_h (o_makeN (g := fInt) (e' := 3) hO Try.underlying80 Try.type81 rfl rfl rfl rfl hs_29.1 hs_29.2.1 hs_29.2.2) (by rintro v_31 H_30 hO; exact ⟨_, (Own.sel (Ls := [ownN fInt 81 3 v_31 (List.replicate t.States.toNat []), ownN fInt 81 3 v_28 (List.replicate t.States.toNat []), box b_21 [.int .i64 t.States, v_1, v_3, v_5] 28, fz fGArc.rep v_5 t.Arcs, fz fGTip.rep v_3 t.Ends, fz fGTip.rep v_1 t.Starts, inZ Z]) (L := L) [2, 3, 4, 5, 6] rfl hO)⟩) rfl ?_
   rintro v_31 H_30 hO
   refine hd_v rfl (fun _ _ => (v_assign rfl)) rfl (hd_nil (hd_h (OpV.toH (v_assign rfl)) (fun _ _ hR => trivial) rfl ?_))
   rintro vv HH ⟨hvv, hHH⟩
   obtain rfl := hvv.symm
   obtain rfl := hHH.symm
   refine hd_nil ?_
   exact ⟨rfl, v_31, v_28, _, (a_c 1 rfl (a_c 3 rfl (a_c 4 rfl a_n))), (Own.sel (Ls := [ownN fInt 81 3 v_31 (List.replicate t.States.toNat []), ownN fInt 81 3 v_28 (List.replicate t.States.toNat []), box b_21 [.int .i64 t.States, v_1, v_3, v_5] 28, fz fGArc.rep v_5 t.Arcs, fz fGTip.rep v_3 t.Ends, fz fGTip.rep v_1 t.Starts, inZ Z]) (L := L) [1, 0, 2, 3, 4, 5, 6] rfl hO)⟩
 ·rintro _ H_32 ⟨v_23, v_26, Z_33, hai, hO⟩
  obtain ⟨hs_24, h⟩ := h
  refine thenQ_n (hw_sub _ hai (hw_seq (hw_seq (hw_region (hl_v (v_fieldA Try.underlying28 rfl Try.sizeOf26 rfl) rfl (hl_v (v_load1 Try.isAgg26 rfl (Blk.cell (hO.box 2 rfl) rfl)) rfl ?_))))))
  have hln_34 := Sl.cap (hO.fsl 3 rfl)
  refine hl_v (v_lenL rfl Try.underlying26 rfl (hO.fsl 3 rfl)) rfl (hl_v (v_move rfl) rfl (hl_nil (thenQ_n (hw_block ?_))))
  obtain ⟨I_35, h, hI_37⟩ := h
  refine hw_lp (fun n' g' H' => ∃ (xon : List (List Int)) (back : List (List Int)) (k : Nat) (Z' : Nat → Prop), n' = t.Arcs.length - k ∧ g' = [(1, ptr b_21 0), (3, v_23), (4, v_26), (16, v_5), (17, .int .i64 (t.Arcs.length : Int)), (18, .int .i64 (k : Int))] ∧ I_35 xon back k ∧ k ≤ t.Arcs.length ∧ Own H' Z' (ownN fInt 81 3 v_26 back :: ownN fInt 81 3 v_23 xon :: box b_21 [.int .i64 t.States, v_1, v_3, v_5] 28 :: fz fGArc.rep v_5 t.Arcs :: fz fGTip.rep v_3 t.Ends :: fz fGTip.rep v_1 t.Starts :: inZ Z :: L)) _ _ (a_c 1 rfl (a_c 3 rfl (a_c 4 rfl (a_c 16 rfl (a_c 17 rfl (a_c 18 rfl a_n)))))) ⟨(List.replicate t.States.toNat []), (List.replicate t.States.toNat []), 0, _, rfl, rfl, h, by omega, hO⟩ ?_
  rintro _ _ H_38 ⟨xon, back, k, Z_39, rfl, rfl, h, hb_40, hO⟩
  replace h := hI_37 xon back k h hb_40
  refine hw_seq (hw_region (hl_v (v_lss rfl rfl) rfl (hl_nil (thenQ_n (hw_seq (hw_cond rfl (fun hc_41 => ?_) (fun hc_41 => ?_)))))))
  ·replace h := ite_t h hc_41
   refine hw_skip (thenQ_n (hw_seq (hw_block (hw_seq (hw_region (hl_v (v_ixL Try.underlying26 Try.sizeOf55 rfl rfl (hO.fsl 3 rfl) (by exact ⟨Int.natCast_nonneg _, of_decide_eq_true hc_41⟩)) rfl (hl_v (v_loadFl Try.isAgg55 Try.sizeOf55 rfl (hO.fsl 3 rfl) rfl (by exact ⟨Int.natCast_nonneg _, of_decide_eq_true hc_41⟩)) rfl (hl_h (o_alloc (cs := (fGArc.enc (⟨(0 : Int), (0 : Int), BSet.zero, ([] : List UInt8), false⟩ : GArc))) hO Try.zeroValue55 rfl) rfl ?_))))))))
   rintro _ H_42 ⟨b_43, rfl, hO⟩
   refine hl_s (o_storeA (us := (fGArc.enc (t.Arcs.getD k default))) hO 0 rfl Try.sizeOf55 rfl rfl rfl rfl (by intro u hu; exact (fGArc).one _ u hu)) ?_
   rintro _ H_44 hO
   refine hl_nil (thenQ_n (hw_seq ?_))
   obtain ⟨hs_45, h⟩ := h
   replace hO := Own.sel (Ls := [box b_43 (fGArc.enc (t.Arcs.getD k default)) 55, ownN fInt 81 3 v_26 back, ownN fInt 81 3 v_23 xon, box b_21 [.int .i64 t.States, v_1, v_3, v_5] 28, fz fGArc.rep v_5 t.Arcs, fz fGTip.rep v_3 t.Ends, fz fGTip.rep v_1 t.Starts, inZ Z]) (L := L) [2, 0, 1, 3, 4, 5, 6, 7] rfl hO
   replace hO : Own H_44 Z_39 (ownN fInt 81 3 v_23 xon :: box b_43 (fGArc.enc (t.Arcs.getD k default)) 55 :: ownN fInt 81 3 v_26 back :: box b_21 [.int .i64 t.States, v_1, v_3, v_5] 28 :: fz fGArc.rep v_5 t.Arcs :: fz fGTip.rep v_3 t.Ends :: fz fGTip.rep v_1 t.Starts :: inZ Z :: L) := hO
   obtain ⟨vs_46, hl_47, hO⟩ := Own.take (k := ((t.Arcs.getD k default).From).toNat) hO (by have hq := hs_45; omega)
   replace hO : Own H_44 Z_39 (own fInt 3 (vs_46.getD (((t.Arcs.getD k default).From).toNat) default) (xon.getD ((t.Arcs.getD k default).From).toNat default) :: rowv 81 v_23 vs_46 :: innX fInt 3 vs_46 xon (((t.Arcs.getD k default).From).toNat) :: box b_43 (fGArc.enc (t.Arcs.getD k default)) 55 :: ownN fInt 81 3 v_26 back :: box b_21 [.int .i64 t.States, v_1, v_3, v_5] 28 :: fz fGArc.rep v_5 t.Arcs :: fz fGTip.rep v_3 t.Ends :: fz fGTip.rep v_1 t.Starts :: inZ Z :: L) := hO
   refine hw_held2 12 (fun H' => ∃ Z' : Nat → Prop, Own H' Z' (rowv 81 v_23 vs_46 :: innX fInt 3 vs_46 xon (((t.Arcs.getD k default).From).toNat) :: box b_43 (fGArc.enc (t.Arcs.getD k default)) 55 :: ownN fInt 81 3 v_26 back :: box b_21 [.int .i64 t.States, v_1, v_3, v_5] 28 :: fz fGArc.rep v_5 t.Arcs :: fz fGTip.rep v_3 t.Ends :: fz fGTip.rep v_1 t.Starts :: inZ Z :: L)) (.step 0 false (.step 1 false (.step 2 false (.step 3 false (.step 4 false (.step 5 false (.step 6 false (.step 7 false (.step 8 false (.step 9 false (.step 10 true (.step 11 true .done)))))))))))) (.step 12 true (.step 13 true .done)) Try.mixed (by kernel_rfl) ⟨_, (Own.sel (Ls := [own fInt 3 (vs_46.getD (((t.Arcs.getD k default).From).toNat) default) (xon.getD ((t.Arcs.getD k default).From).toNat default), rowv 81 v_23 vs_46, innX fInt 3 vs_46 xon (((t.Arcs.getD k default).From).toNat), box b_43 (fGArc.enc (t.Arcs.getD k default)) 55, ownN fInt 81 3 v_26 back, box b_21 [.int .i64 t.States, v_1, v_3, v_5] 28, fz fGArc.rep v_5 t.Arcs, fz fGTip.rep v_3 t.Ends, fz fGTip.rep v_1 t.Starts, inZ Z]) (L := L) [1, 2, 3, 4, 5, 6, 7, 8, 9] rfl hO)⟩ (hd_v rfl (fun _ _ => (v_move rfl)) rfl (hd_v rfl (fun _ _ => (v_fieldA Try.underlying55 rfl Try.sizeOf3 rfl)) rfl (hd_v rfl (fun H' hS => by obtain ⟨Z', hO⟩ := hS; exact (v_load1 Try.isAgg3 rfl (Blk.cell (hO.box 2 rfl) rfl))) rfl (hd_v rfl (fun _ _ => (v_move rfl)) rfl (hd_v rfl (fun _ _ => (v_fieldA Try.underlying55 rfl Try.sizeOf3 rfl)) rfl (hd_v rfl (fun H' hS => by obtain ⟨Z', hO⟩ := hS; exact (v_load1 Try.isAgg3 rfl (Blk.cell (hO.box 2 rfl) rfl))) rfl ?_))))))
   refine hd_v rfl (fun H' hS => by obtain ⟨Z', hO⟩ := hS; exact (v_ixL Try.underlying80 Try.sizeOf81 rfl rfl (hO.rw 0 rfl) (by rw [hl_47]; exact hs_45))) rfl (hd_v rfl (fun H' hS => by obtain ⟨Z', hO⟩ := hS; exact (v_rowLoad hO (i := 0) rfl Try.isAgg81 rfl (by rw [hl_47]; exact hs_45))) rfl (hd_v rfl (fun _ _ => (v_fieldA Try.underlying55 rfl Try.sizeOf3 rfl)) rfl (hd_v rfl (fun H' hS => by obtain ⟨Z', hO⟩ := hS; exact (v_load1 Try.isAgg3 rfl (Blk.cell (hO.box 2 rfl) rfl))) rfl (hd_h (o_lit (g := fInt) (l := [(t.Arcs.getD k default).To]) (xs := [.tmp 31]) hO Try.underlying81 Try.sizeOf3 Try.zeroValue3 rfl (evs_cons rfl evs_nil) rfl rfl rfl rfl rfl) (by rintro v_49 H_48 hO; exact ⟨_, (Own.sel (Ls := [own fInt 3 v_49 [(t.Arcs.getD k default).To], own fInt 3 (vs_46.getD (((t.Arcs.getD k default).From).toNat) default) (xon.getD ((t.Arcs.getD k default).From).toNat default), rowv 81 v_23 vs_46, innX fInt 3 vs_46 xon (((t.Arcs.getD k default).From).toNat), box b_43 (fGArc.enc (t.Arcs.getD k default)) 55, ownN fInt 81 3 v_26 back, box b_21 [.int .i64 t.States, v_1, v_3, v_5] 28, fz fGArc.rep v_5 t.Arcs, fz fGTip.rep v_3 t.Ends, fz fGTip.rep v_1 t.Starts, inZ Z]) (L := L) [2, 3, 4, 5, 6, 7, 8, 9, 10] rfl hO)⟩) rfl ?_))))
   rintro v_49 H_48 hO
   obtain ⟨hs_52, h⟩ := h
   refine hd_h (o_append (l2 := [(t.Arcs.getD k default).To]) hO 1 rfl rfl Try.underlying81 Try.type3 rfl rfl rfl rfl rfl rfl rfl (hO.osl 0 rfl) hs_52 (le63 hs_52 rfl)) (by rintro v_51 H_50 hO; exact ⟨_, (Own.sel (Ls := [own fInt 3 v_49 [(t.Arcs.getD k default).To], own fInt 3 v_51 ((xon.getD ((t.Arcs.getD k default).From).toNat default) ++ [(t.Arcs.getD k default).To]), rowv 81 v_23 vs_46, innX fInt 3 vs_46 xon (((t.Arcs.getD k default).From).toNat), box b_43 (fGArc.enc (t.Arcs.getD k default)) 55, ownN fInt 81 3 v_26 back, box b_21 [.int .i64 t.States, v_1, v_3, v_5] 28, fz fGArc.rep v_5 t.Arcs, fz fGTip.rep v_3 t.Ends, fz fGTip.rep v_1 t.Starts, inZ Z]) (L := L) [2, 3, 4, 5, 6, 7, 8, 9, 10] rfl hO)⟩) rfl ?_
   rintro v_51 H_50 hO
   refine hd_nil (hd_h (OpV.toH (v_ixL Try.underlying80 Try.sizeOf81 rfl rfl (hO.rw 2 rfl) (by rw [hl_47]; exact hs_45))) (fun _ _ hR => trivial) rfl ?_)
   rintro vv HH ⟨hvv, hHH⟩
   obtain rfl := hvv.symm
   obtain rfl := hHH.symm
   refine hd_s (o_rowStore hO (i := 2) rfl Try.sizeOf81 rfl rfl (by rw [hl_47]; exact hs_45) (Sl.one (hO.osl 1 rfl))) (fun _ _ _ => trivial) ?_
   rintro _ H_53 hO
   refine hd_nil ?_
   replace hO := Own.back (Own.sel (Ls := [own fInt 3 v_49 [(t.Arcs.getD k default).To], own fInt 3 v_51 ((xon.getD ((t.Arcs.getD k default).From).toNat default) ++ [(t.Arcs.getD k default).To]), rowv 81 v_23 (vs_46.set (((t.Arcs.getD k default).From).toNat) v_51), innX fInt 3 vs_46 xon (((t.Arcs.getD k default).From).toNat), box b_43 (fGArc.enc (t.Arcs.getD k default)) 55, ownN fInt 81 3 v_26 back, box b_21 [.int .i64 t.States, v_1, v_3, v_5] 28, fz fGArc.rep v_5 t.Arcs, fz fGTip.rep v_3 t.Ends, fz fGTip.rep v_1 t.Starts, inZ Z]) (L := L) [1, 2, 3, 0, 4, 5, 6, 7, 8, 9, 10] rfl hO) hl_47 (by have hq := hs_45; omega)
   replace hO : Own H_53 Z_39 (ownN fInt 81 3 v_23 (xon.set ((t.Arcs.getD k default).From).toNat ((xon.getD ((t.Arcs.getD k default).From).toNat default) ++ [(t.Arcs.getD k default).To])) :: own fInt 3 v_49 [(t.Arcs.getD k default).To] :: box b_43 (fGArc.enc (t.Arcs.getD k default)) 55 :: ownN fInt 81 3 v_26 back :: box b_21 [.int .i64 t.States, v_1, v_3, v_5] 28 :: fz fGArc.rep v_5 t.Arcs :: fz fGTip.rep v_3 t.Ends :: fz fGTip.rep v_1 t.Starts :: inZ Z :: L) := hO
   refine thenQ_n ?_
   obtain ⟨hs_54, h⟩ := h
   replace hO := Own.sel (Ls := [ownN fInt 81 3 v_23 (xon.set ((t.Arcs.getD k default).From).toNat ((xon.getD ((t.Arcs.getD k default).From).toNat default) ++ [(t.Arcs.getD k default).To])), own fInt 3 v_49 [(t.Arcs.getD k default).To], box b_43 (fGArc.enc (t.Arcs.getD k default)) 55, ownN fInt 81 3 v_26 back, box b_21 [.int .i64 t.States, v_1, v_3, v_5] 28, fz fGArc.rep v_5 t.Arcs, fz fGTip.rep v_3 t.Ends, fz fGTip.rep v_1 t.Starts, inZ Z]) (L := L) [3, 0, 1, 2, 4, 5, 6, 7, 8] rfl hO
   replace hO : Own H_53 Z_39 (ownN fInt 81 3 v_26 back :: ownN fInt 81 3 v_23 (xon.set ((t.Arcs.getD k default).From).toNat ((xon.getD ((t.Arcs.getD k default).From).toNat default) ++ [(t.Arcs.getD k default).To])) :: own fInt 3 v_49 [(t.Arcs.getD k default).To] :: box b_43 (fGArc.enc (t.Arcs.getD k default)) 55 :: box b_21 [.int .i64 t.States, v_1, v_3, v_5] 28 :: fz fGArc.rep v_5 t.Arcs :: fz fGTip.rep v_3 t.Ends :: fz fGTip.rep v_1 t.Starts :: inZ Z :: L) := hO
   obtain ⟨vs_55, hl_56, hO⟩ := Own.take (k := ((t.Arcs.getD k default).To).toNat) hO (by have hq := hs_54; omega)
   replace hO : Own H_53 Z_39 (own fInt 3 (vs_55.getD (((t.Arcs.getD k default).To).toNat) default) (back.getD ((t.Arcs.getD k default).To).toNat default) :: rowv 81 v_26 vs_55 :: innX fInt 3 vs_55 back (((t.Arcs.getD k default).To).toNat) :: ownN fInt 81 3 v_23 (xon.set ((t.Arcs.getD k default).From).toNat ((xon.getD ((t.Arcs.getD k default).From).toNat default) ++ [(t.Arcs.getD k default).To])) :: own fInt 3 v_49 [(t.Arcs.getD k default).To] :: box b_43 (fGArc.enc (t.Arcs.getD k default)) 55 :: box b_21 [.int .i64 t.States, v_1, v_3, v_5] 28 :: fz fGArc.rep v_5 t.Arcs :: fz fGTip.rep v_3 t.Ends :: fz fGTip.rep v_1 t.Starts :: inZ Z :: L) := hO
   refine hw_held2 12 (fun H' => ∃ Z' : Nat → Prop, Own H' Z' (rowv 81 v_26 vs_55 :: innX fInt 3 vs_55 back (((t.Arcs.getD k default).To).toNat) :: ownN fInt 81 3 v_23 (xon.set ((t.Arcs.getD k default).From).toNat ((xon.getD ((t.Arcs.getD k default).From).toNat default) ++ [(t.Arcs.getD k default).To])) :: own fInt 3 v_49 [(t.Arcs.getD k default).To] :: box b_43 (fGArc.enc (t.Arcs.getD k default)) 55 :: box b_21 [.int .i64 t.States, v_1, v_3, v_5] 28 :: fz fGArc.rep v_5 t.Arcs :: fz fGTip.rep v_3 t.Ends :: fz fGTip.rep v_1 t.Starts :: inZ Z :: L)) (.step 0 false (.step 1 false (.step 2 false (.step 3 false (.step 4 false (.step 5 false (.step 6 false (.step 7 false (.step 8 false (.step 9 false (.step 10 true (.step 11 true .done)))))))))))) (.step 12 true (.step 13 true .done)) Try.mixed (by kernel_rfl) ⟨_, (Own.sel (Ls := [own fInt 3 (vs_55.getD (((t.Arcs.getD k default).To).toNat) default) (back.getD ((t.Arcs.getD k default).To).toNat default), rowv 81 v_26 vs_55, innX fInt 3 vs_55 back (((t.Arcs.getD k default).To).toNat), ownN fInt 81 3 v_23 (xon.set ((t.Arcs.getD k default).From).toNat ((xon.getD ((t.Arcs.getD k default).From).toNat default) ++ [(t.Arcs.getD k default).To])), own fInt 3 v_49 [(t.Arcs.getD k default).To], box b_43 (fGArc.enc (t.Arcs.getD k default)) 55, box b_21 [.int .i64 t.States, v_1, v_3, v_5] 28, fz fGArc.rep v_5 t.Arcs, fz fGTip.rep v_3 t.Ends, fz fGTip.rep v_1 t.Starts, inZ Z]) (L := L) [1, 2, 3, 4, 5, 6, 7, 8, 9, 10] rfl hO)⟩ (hd_v rfl (fun _ _ => (v_move rfl)) rfl ?_)
   refine hd_v rfl (fun _ _ => (v_fieldA Try.underlying55 rfl Try.sizeOf3 rfl)) rfl (hd_v rfl (fun H' hS => by obtain ⟨Z', hO⟩ := hS; exact (v_load1 Try.isAgg3 rfl (Blk.cell (hO.box 4 rfl) rfl))) rfl (hd_v rfl (fun _ _ => (v_move rfl)) rfl (hd_v rfl (fun _ _ => (v_fieldA Try.underlying55 rfl Try.sizeOf3 rfl)) rfl (hd_v rfl (fun H' hS => by obtain ⟨Z', hO⟩ := hS; exact (v_load1 Try.isAgg3 rfl (Blk.cell (hO.box 4 rfl) rfl))) rfl (hd_v rfl (fun H' hS => by obtain ⟨Z', hO⟩ := hS; exact (v_ixL Try.underlying80 Try.sizeOf81 rfl rfl (hO.rw 0 rfl) (by rw [hl_56]; exact hs_54))) rfl (hd_v rfl (fun H' hS => by obtain ⟨Z', hO⟩ := hS; exact (v_rowLoad hO (i := 0) rfl Try.isAgg81 rfl (by rw [hl_56]; exact hs_54))) rfl (hd_v rfl (fun _ _ => (v_fieldA Try.underlying55 rfl Try.sizeOf3 rfl)) rfl (hd_v rfl (fun H' hS => by obtain ⟨Z', hO⟩ := hS; exact (v_load1 Try.isAgg3 rfl (Blk.cell (hO.box 4 rfl) rfl))) rfl (hd_h (o_lit (g := fInt) (l := [(t.Arcs.getD k default).From]) (xs := [.tmp 44]) hO Try.underlying81 Try.sizeOf3 Try.zeroValue3 rfl (evs_cons rfl evs_nil) rfl rfl rfl rfl rfl) (by rintro v_58 H_57 hO; exact ⟨_, (Own.sel (Ls := [own fInt 3 v_58 [(t.Arcs.getD k default).From], own fInt 3 (vs_55.getD (((t.Arcs.getD k default).To).toNat) default) (back.getD ((t.Arcs.getD k default).To).toNat default), rowv 81 v_26 vs_55, innX fInt 3 vs_55 back (((t.Arcs.getD k default).To).toNat), ownN fInt 81 3 v_23 (xon.set ((t.Arcs.getD k default).From).toNat ((xon.getD ((t.Arcs.getD k default).From).toNat default) ++ [(t.Arcs.getD k default).To])), own fInt 3 v_49 [(t.Arcs.getD k default).To], box b_43 (fGArc.enc (t.Arcs.getD k default)) 55, box b_21 [.int .i64 t.States, v_1, v_3, v_5] 28, fz fGArc.rep v_5 t.Arcs, fz fGTip.rep v_3 t.Ends, fz fGTip.rep v_1 t.Starts, inZ Z]) (L := L) [2, 3, 4, 5, 6, 7, 8, 9, 10, 11] rfl hO)⟩) rfl ?_)))))))))
   rintro v_58 H_57 hO
   obtain ⟨hs_61, h⟩ := h
   refine hd_h (o_append (l2 := [(t.Arcs.getD k default).From]) hO 1 rfl rfl Try.underlying81 Try.type3 rfl rfl rfl rfl rfl rfl rfl (hO.osl 0 rfl) hs_61 (le63 hs_61 rfl)) (by rintro v_60 H_59 hO; exact ⟨_, (Own.sel (Ls := [own fInt 3 v_58 [(t.Arcs.getD k default).From], own fInt 3 v_60 ((back.getD ((t.Arcs.getD k default).To).toNat default) ++ [(t.Arcs.getD k default).From]), rowv 81 v_26 vs_55, innX fInt 3 vs_55 back (((t.Arcs.getD k default).To).toNat), ownN fInt 81 3 v_23 (xon.set ((t.Arcs.getD k default).From).toNat ((xon.getD ((t.Arcs.getD k default).From).toNat default) ++ [(t.Arcs.getD k default).To])), own fInt 3 v_49 [(t.Arcs.getD k default).To], box b_43 (fGArc.enc (t.Arcs.getD k default)) 55, box b_21 [.int .i64 t.States, v_1, v_3, v_5] 28, fz fGArc.rep v_5 t.Arcs, fz fGTip.rep v_3 t.Ends, fz fGTip.rep v_1 t.Starts, inZ Z]) (L := L) [2, 3, 4, 5, 6, 7, 8, 9, 10, 11] rfl hO)⟩) rfl ?_
   rintro v_60 H_59 hO
   refine hd_nil (hd_h (OpV.toH (v_ixL Try.underlying80 Try.sizeOf81 rfl rfl (hO.rw 2 rfl) (by rw [hl_56]; exact hs_54))) (fun _ _ hR => trivial) rfl ?_)
   rintro vv HH ⟨hvv, hHH⟩
   obtain rfl := hvv.symm
   obtain rfl := hHH.symm
   refine hd_s (o_rowStore hO (i := 2) rfl Try.sizeOf81 rfl rfl (by rw [hl_56]; exact hs_54) (Sl.one (hO.osl 1 rfl))) (fun _ _ _ => trivial) ?_
   rintro _ H_62 hO
   refine hd_nil ?_
   replace hO := Own.back (Own.sel (Ls := [own fInt 3 v_58 [(t.Arcs.getD k default).From], own fInt 3 v_60 ((back.getD ((t.Arcs.getD k default).To).toNat default) ++ [(t.Arcs.getD k default).From]), rowv 81 v_26 (vs_55.set (((t.Arcs.getD k default).To).toNat) v_60), innX fInt 3 vs_55 back (((t.Arcs.getD k default).To).toNat), ownN fInt 81 3 v_23 (xon.set ((t.Arcs.getD k default).From).toNat ((xon.getD ((t.Arcs.getD k default).From).toNat default) ++ [(t.Arcs.getD k default).To])), own fInt 3 v_49 [(t.Arcs.getD k default).To], box b_43 (fGArc.enc (t.Arcs.getD k default)) 55, box b_21 [.int .i64 t.States, v_1, v_3, v_5] 28, fz fGArc.rep v_5 t.Arcs, fz fGTip.rep v_3 t.Ends, fz fGTip.rep v_1 t.Starts, inZ Z]) (L := L) [1, 2, 3, 0, 4, 5, 6, 7, 8, 9, 10, 11] rfl hO) hl_56 (by have hq := hs_54; omega)
   replace hO : Own H_62 Z_39 (ownN fInt 81 3 v_26 (back.set ((t.Arcs.getD k default).To).toNat ((back.getD ((t.Arcs.getD k default).To).toNat default) ++ [(t.Arcs.getD k default).From])) :: own fInt 3 v_58 [(t.Arcs.getD k default).From] :: ownN fInt 81 3 v_23 (xon.set ((t.Arcs.getD k default).From).toNat ((xon.getD ((t.Arcs.getD k default).From).toNat default) ++ [(t.Arcs.getD k default).To])) :: own fInt 3 v_49 [(t.Arcs.getD k default).To] :: box b_43 (fGArc.enc (t.Arcs.getD k default)) 55 :: box b_21 [.int .i64 t.States, v_1, v_3, v_5] 28 :: fz fGArc.rep v_5 t.Arcs :: fz fGTip.rep v_3 t.Ends :: fz fGTip.rep v_1 t.Starts :: inZ Z :: L) := hO
   refine blockQ_n (thenQ_n (hw_region (hl_v (v_add rfl rfl (by have hq := of_decide_eq_true hc_41; have hm := hln_34; constructor <;> omega)) rfl (hl_v (v_move rfl) rfl (hl_nil (thenQ_n ?_))))))
   exact ⟨_, _, (a_c 1 rfl (a_c 3 rfl (a_c 4 rfl (a_c 16 rfl (a_c 17 rfl (a_c 18 rfl a_n)))))), ⟨(xon.set ((t.Arcs.getD k default).From).toNat ((xon.getD ((t.Arcs.getD k default).From).toNat default) ++ [(t.Arcs.getD k default).To])), (back.set ((t.Arcs.getD k default).To).toNat ((back.getD ((t.Arcs.getD k default).To).toNat default) ++ [(t.Arcs.getD k default).From])), k + 1, _, rfl, rfl, h, (by have hq := of_decide_eq_true hc_41; omega), (Own.sel (Ls := [ownN fInt 81 3 v_26 (back.set ((t.Arcs.getD k default).To).toNat ((back.getD ((t.Arcs.getD k default).To).toNat default) ++ [(t.Arcs.getD k default).From])), own fInt 3 v_58 [(t.Arcs.getD k default).From], ownN fInt 81 3 v_23 (xon.set ((t.Arcs.getD k default).From).toNat ((xon.getD ((t.Arcs.getD k default).From).toNat default) ++ [(t.Arcs.getD k default).To])), own fInt 3 v_49 [(t.Arcs.getD k default).To], box b_43 (fGArc.enc (t.Arcs.getD k default)) 55, box b_21 [.int .i64 t.States, v_1, v_3, v_5] 28, fz fGArc.rep v_5 t.Arcs, fz fGTip.rep v_3 t.Ends, fz fGTip.rep v_1 t.Starts, inZ Z]) (L := L) [0, 2, 5, 6, 7, 8, 9] rfl hO)⟩, (by have hq := of_decide_eq_true hc_41; omega)⟩
  ·replace h := ite_f h hc_41
   refine hw_exit (thenQ_e (thenQ_e (blockQ_hit (thenQ_n (hw_seq (hw_hj (fun f' H' => ∃ (v_65 : Value) (v_71 : Value) (b_76 : Nat) (b_78 : Nat) (Z' : Nat → Prop), AllIn f' [(1, ptr b_21 0), (7, ptr b_76 0), (8, ptr b_78 0)] ∧ Own H' Z' (box b_78 [v_71] 82 :: box b_76 [v_65] 82 :: own fBool 4 v_71 (reachL t.States t.Ends back) :: own fBool 4 v_65 (reachL t.States t.Starts xon) :: fz (Rep.sl fInt.rep) v_26 back :: fz (Rep.sl fInt.rep) v_23 xon :: box b_21 [.int .i64 t.States, v_1, v_3, v_5] 28 :: fz fGArc.rep v_5 t.Arcs :: fz fGTip.rep v_3 t.Ends :: fz fGTip.rep v_1 t.Starts :: inZ Z :: L)) ?_ ?_))))))
   ·refine hw_held2 15 (fun H' => ∃ Z' : Nat → Prop, Own H' Z' (box b_21 [.int .i64 t.States, v_1, v_3, v_5] 28 :: fz fGArc.rep v_5 t.Arcs :: fz fGTip.rep v_3 t.Ends :: fz fGTip.rep v_1 t.Starts :: inZ Z :: L)) (.step 0 false (.step 1 false (.step 2 false (.step 3 false (.step 4 false (.step 6 false (.step 7 false (.step 8 false (.step 9 false (.step 10 false (.three 5 12 13 (.three 11 12 13 (.two 12 13 (.step 13 true (.step 14 true .done)) (.step 12 true (.step 14 true .done))) (.two 11 13 (.step 13 true (.step 14 true .done)) (.step 11 true (.step 14 true .done))) (.two 11 12 (.step 12 true (.step 14 true .done)) (.step 11 true (.step 14 true .done)))) (.two 5 13 (.two 11 13 (.step 13 true (.step 14 true .done)) (.step 11 true (.step 14 true .done))) (.step 5 true (.step 11 true (.step 14 true .done)))) (.two 5 12 (.two 11 12 (.step 12 true (.step 14 true .done)) (.step 11 true (.step 14 true .done))) (.step 5 true (.step 11 true (.step 14 true .done))))))))))))))) (.step 15 true .done) Try.mixed (by kernel_rfl) ⟨_, (Own.sel (Ls := [ownN fInt 81 3 v_26 back, ownN fInt 81 3 v_23 xon, box b_21 [.int .i64 t.States, v_1, v_3, v_5] 28, fz fGArc.rep v_5 t.Arcs, fz fGTip.rep v_3 t.Ends, fz fGTip.rep v_1 t.Starts, inZ Z]) (L := L) [2, 3, 4, 5, 6] rfl hO)⟩ (hd_v rfl (fun _ _ => (v_fieldA Try.underlying28 rfl Try.sizeOf3 rfl)) rfl (hd_v rfl (fun H' hS => by obtain ⟨Z', hO⟩ := hS; exact (v_load1 Try.isAgg3 rfl (Blk.cell (hO.box 0 rfl) rfl))) rfl (hd_v rfl (fun _ _ => (v_fieldA Try.underlying28 rfl Try.sizeOf25 rfl)) rfl ?_)))
    refine hd_v rfl (fun H' hS => by obtain ⟨Z', hO⟩ := hS; exact (v_load1 Try.isAgg25 rfl (Blk.cell (hO.box 0 rfl) rfl))) rfl (hd_v rfl (fun _ _ => (v_move rfl)) rfl (hd_v rfl (fun _ _ => (v_fieldA Try.underlying28 rfl Try.sizeOf3 rfl)) rfl (hd_v rfl (fun H' hS => by obtain ⟨Z', hO⟩ := hS; exact (v_load1 Try.isAgg3 rfl (Blk.cell (hO.box 0 rfl) rfl))) rfl (hd_v rfl (fun _ _ => (v_fieldA Try.underlying28 rfl Try.sizeOf25 rfl)) rfl (hd_v rfl (fun H' hS => by obtain ⟨Z', hO⟩ := hS; exact (v_load1 Try.isAgg25 rfl (Blk.cell (hO.box 0 rfl) rfl))) rfl (hd_v rfl (fun _ _ => (v_move rfl)) rfl (hd_three ?_ ?_ ?_)))))))
    ·obtain ⟨Z_63, _, hO⟩ := hO.freezeN (i := 1) rfl
     obtain ⟨hs_64, h⟩ := h
     refine hd_h (h_call Try.call37 (evs_cons rfl (evs_cons rfl (evs_cons rfl evs_nil))) (reachP_spec (a0 := t.States) (a1 := t.Starts) (a2 := xon) hs_64 hO (Rd.of_fz (i := 5) rfl) (Fz.of (i := 1) rfl))) (by rintro v_65 H_66 ⟨Z_67, _, _, rfl, hO⟩; exact ⟨_, (Own.sel (Ls := [own fBool 4 v_65 (reachL t.States t.Starts xon), ownN fInt 81 3 v_26 back, fz (Rep.sl fInt.rep) v_23 xon, box b_21 [.int .i64 t.States, v_1, v_3, v_5] 28, fz fGArc.rep v_5 t.Arcs, fz fGTip.rep v_3 t.Ends, fz fGTip.rep v_1 t.Starts, inZ Z]) (L := L) [3, 4, 5, 6, 7] rfl hO)⟩) rfl ?_
     rintro v_65 H_66 ⟨Z_67, _, _, rfl, hO⟩
     refine hd_three ?_ ?_ ?_
     ·obtain ⟨Z_69, _, hO⟩ := hO.freezeN (i := 1) rfl
      obtain ⟨hs_70, h⟩ := h
      refine hd_h (h_call Try.call37 (evs_cons rfl (evs_cons rfl (evs_cons rfl evs_nil))) (reachP_spec (a0 := t.States) (a1 := t.Ends) (a2 := back) hs_70 hO (Rd.of_fz (i := 5) rfl) (Fz.of (i := 1) rfl))) (by rintro v_71 H_72 ⟨Z_73, _, _, rfl, hO⟩; exact ⟨_, (Own.sel (Ls := [own fBool 4 v_71 (reachL t.States t.Ends back), own fBool 4 v_65 (reachL t.States t.Starts xon), fz (Rep.sl fInt.rep) v_26 back, fz (Rep.sl fInt.rep) v_23 xon, box b_21 [.int .i64 t.States, v_1, v_3, v_5] 28, fz fGArc.rep v_5 t.Arcs, fz fGTip.rep v_3 t.Ends, fz fGTip.rep v_1 t.Starts, inZ Z]) (L := L) [4, 5, 6, 7, 8] rfl hO)⟩) rfl ?_
      rintro v_71 H_72 ⟨Z_73, _, _, rfl, hO⟩
      refine hd_two ?_ ?_
      ·refine hd_h (o_alloc (cs := [.slice none 0 0]) hO Try.zeroValue82 rfl) (by rintro _ H_75 ⟨b_76, rfl, hO⟩; exact ⟨_, (Own.sel (Ls := [box b_76 [.slice none 0 0] 82, own fBool 4 v_71 (reachL t.States t.Ends back), own fBool 4 v_65 (reachL t.States t.Starts xon), fz (Rep.sl fInt.rep) v_26 back, fz (Rep.sl fInt.rep) v_23 xon, box b_21 [.int .i64 t.States, v_1, v_3, v_5] 28, fz fGArc.rep v_5 t.Arcs, fz fGTip.rep v_3 t.Ends, fz fGTip.rep v_1 t.Starts, inZ Z]) (L := L) [5, 6, 7, 8, 9] rfl hO)⟩) rfl ?_
       rintro _ H_75 ⟨b_76, rfl, hO⟩
       refine hd_h (o_alloc (cs := [.slice none 0 0]) hO Try.zeroValue82 rfl) (by rintro _ H_77 ⟨b_78, rfl, hO⟩; exact ⟨_, (Own.sel (Ls := [box b_78 [.slice none 0 0] 82, box b_76 [.slice none 0 0] 82, own fBool 4 v_71 (reachL t.States t.Ends back), own fBool 4 v_65 (reachL t.States t.Starts xon), fz (Rep.sl fInt.rep) v_26 back, fz (Rep.sl fInt.rep) v_23 xon, box b_21 [.int .i64 t.States, v_1, v_3, v_5] 28, fz fGArc.rep v_5 t.Arcs, fz fGTip.rep v_3 t.Ends, fz fGTip.rep v_1 t.Starts, inZ Z]) (L := L) [6, 7, 8, 9, 10] rfl hO)⟩) rfl ?_
       rintro _ H_77 ⟨b_78, rfl, hO⟩
       refine hd_s (o_store1 hO 1 rfl Try.sizeOf82 rfl rfl rfl (Sl.one (hO.osl 3 rfl))) (by rintro _ H_79 hO; exact ⟨_, (Own.sel (Ls := [box b_78 [.slice none 0 0] 82, box b_76 [v_65] 82, own fBool 4 v_71 (reachL t.States t.Ends back), own fBool 4 v_65 (reachL t.States t.Starts xon), fz (Rep.sl fInt.rep) v_26 back, fz (Rep.sl fInt.rep) v_23 xon, box b_21 [.int .i64 t.States, v_1, v_3, v_5] 28, fz fGArc.rep v_5 t.Arcs, fz fGTip.rep v_3 t.Ends, fz fGTip.rep v_1 t.Starts, inZ Z]) (L := L) [6, 7, 8, 9, 10] rfl hO)⟩) ?_
       rintro _ H_79 hO
       refine hd_nil (hd_s (o_store1 hO 0 rfl Try.sizeOf82 rfl rfl rfl (Sl.one (hO.osl 2 rfl))) (fun _ _ _ => trivial) ?_)
       rintro _ H_80 hO
       replace hO : Own H_80 Z_73 (box b_78 [v_71] 82 :: box b_76 [v_65] 82 :: own fBool 4 v_71 (reachL t.States t.Ends back) :: own fBool 4 v_65 (reachL t.States t.Starts xon) :: fz (Rep.sl fInt.rep) v_26 back :: fz (Rep.sl fInt.rep) v_23 xon :: box b_21 [.int .i64 t.States, v_1, v_3, v_5] 28 :: fz fGArc.rep v_5 t.Arcs :: fz fGTip.rep v_3 t.Ends :: fz fGTip.rep v_1 t.Starts :: inZ Z :: L) := hO
       refine hd_nil ?_
       exact ⟨rfl, v_65, v_71, b_76, b_78, _, (a_c 1 rfl (a_c 7 rfl (a_c 8 rfl a_n))), hO⟩
      ·refine hd_h (o_alloc (cs := [.slice none 0 0]) hO Try.zeroValue82 rfl) (by rintro _ H_81 ⟨b_82, rfl, hO⟩; exact ⟨_, (Own.sel (Ls := [box b_82 [.slice none 0 0] 82, own fBool 4 v_71 (reachL t.States t.Ends back), own fBool 4 v_65 (reachL t.States t.Starts xon), fz (Rep.sl fInt.rep) v_26 back, fz (Rep.sl fInt.rep) v_23 xon, box b_21 [.int .i64 t.States, v_1, v_3, v_5] 28, fz fGArc.rep v_5 t.Arcs, fz fGTip.rep v_3 t.Ends, fz fGTip.rep v_1 t.Starts, inZ Z]) (L := L) [5, 6, 7, 8, 9] rfl hO)⟩) rfl ?_
       rintro _ H_81 ⟨b_82, rfl, hO⟩
       refine hd_h (o_alloc (cs := [.slice none 0 0]) hO Try.zeroValue82 rfl) (by rintro _ H_83 ⟨b_84, rfl, hO⟩; exact ⟨_, (Own.sel (Ls := [box b_84 [.slice none 0 0] 82, box b_82 [.slice none 0 0] 82, own fBool 4 v_71 (reachL t.States t.Ends back), own fBool 4 v_65 (reachL t.States t.Starts xon), fz (Rep.sl fInt.rep) v_26 back, fz (Rep.sl fInt.rep) v_23 xon, box b_21 [.int .i64 t.States, v_1, v_3, v_5] 28, fz fGArc.rep v_5 t.Arcs, fz fGTip.rep v_3 t.Ends, fz fGTip.rep v_1 t.Starts, inZ Z]) (L := L) [6, 7, 8, 9, 10] rfl hO)⟩) rfl ?_
       rintro _ H_83 ⟨b_84, rfl, hO⟩
       refine hd_s (o_store1 hO 0 rfl Try.sizeOf82 rfl rfl rfl (Sl.one (hO.osl 3 rfl))) (by rintro _ H_85 hO; exact ⟨_, (Own.sel (Ls := [box b_84 [v_65] 82, box b_82 [.slice none 0 0] 82, own fBool 4 v_71 (reachL t.States t.Ends back), own fBool 4 v_65 (reachL t.States t.Starts xon), fz (Rep.sl fInt.rep) v_26 back, fz (Rep.sl fInt.rep) v_23 xon, box b_21 [.int .i64 t.States, v_1, v_3, v_5] 28, fz fGArc.rep v_5 t.Arcs, fz fGTip.rep v_3 t.Ends, fz fGTip.rep v_1 t.Starts, inZ Z]) (L := L) [6, 7, 8, 9, 10] rfl hO)⟩) ?_
       rintro _ H_85 hO
       refine hd_nil (hd_s (o_store1 hO 1 rfl Try.sizeOf82 rfl rfl rfl (Sl.one (hO.osl 2 rfl))) (fun _ _ _ => trivial) ?_)
       rintro _ H_86 hO
       replace hO : Own H_86 Z_73 (box b_84 [v_65] 82 :: box b_82 [v_71] 82 :: own fBool 4 v_71 (reachL t.States t.Ends back) :: own fBool 4 v_65 (reachL t.States t.Starts xon) :: fz (Rep.sl fInt.rep) v_26 back :: fz (Rep.sl fInt.rep) v_23 xon :: box b_21 [.int .i64 t.States, v_1, v_3, v_5] 28 :: fz fGArc.rep v_5 t.Arcs :: fz fGTip.rep v_3 t.Ends :: fz fGTip.rep v_1 t.Starts :: inZ Z :: L) := hO
       refine hd_nil ?_
       exact ⟨rfl, v_65, v_71, b_84, b_82, _, (a_c 1 rfl (a_c 7 rfl (a_c 8 rfl a_n))), (Own.sel (Ls := [box b_84 [v_65] 82, box b_82 [v_71] 82, own fBool 4 v_71 (reachL t.States t.Ends back), own fBool 4 v_65 (reachL t.States t.Starts xon), fz (Rep.sl fInt.rep) v_26 back, fz (Rep.sl fInt.rep) v_23 xon, box b_21 [.int .i64 t.States, v_1, v_3, v_5] 28, fz fGArc.rep v_5 t.Arcs, fz fGTip.rep v_3 t.Ends, fz fGTip.rep v_1 t.Starts, inZ Z]) (L := L) [1, 0, 2, 3, 4, 5, 6, 7, 8, 9, 10] rfl hO)⟩
     ·refine hd_h (o_alloc (cs := [.slice none 0 0]) hO Try.zeroValue82 rfl) (by rintro _ H_87 ⟨b_88, rfl, hO⟩; exact ⟨_, (Own.sel (Ls := [box b_88 [.slice none 0 0] 82, own fBool 4 v_65 (reachL t.States t.Starts xon), ownN fInt 81 3 v_26 back, fz (Rep.sl fInt.rep) v_23 xon, box b_21 [.int .i64 t.States, v_1, v_3, v_5] 28, fz fGArc.rep v_5 t.Arcs, fz fGTip.rep v_3 t.Ends, fz fGTip.rep v_1 t.Starts, inZ Z]) (L := L) [4, 5, 6, 7, 8] rfl hO)⟩) rfl ?_
      rintro _ H_87 ⟨b_88, rfl, hO⟩
      refine hd_two ?_ ?_
      ·obtain ⟨Z_89, _, hO⟩ := hO.freezeN (i := 2) rfl
       obtain ⟨hs_90, h⟩ := h
       refine hd_h (h_call Try.call37 (evs_cons rfl (evs_cons rfl (evs_cons rfl evs_nil))) (reachP_spec (a0 := t.States) (a1 := t.Ends) (a2 := back) hs_90 hO (Rd.of_fz (i := 6) rfl) (Fz.of (i := 2) rfl))) (by rintro v_91 H_92 ⟨Z_93, _, _, rfl, hO⟩; exact ⟨_, (Own.sel (Ls := [own fBool 4 v_91 (reachL t.States t.Ends back), box b_88 [.slice none 0 0] 82, own fBool 4 v_65 (reachL t.States t.Starts xon), fz (Rep.sl fInt.rep) v_26 back, fz (Rep.sl fInt.rep) v_23 xon, box b_21 [.int .i64 t.States, v_1, v_3, v_5] 28, fz fGArc.rep v_5 t.Arcs, fz fGTip.rep v_3 t.Ends, fz fGTip.rep v_1 t.Starts, inZ Z]) (L := L) [5, 6, 7, 8, 9] rfl hO)⟩) rfl ?_
       rintro v_91 H_92 ⟨Z_93, _, _, rfl, hO⟩
       refine hd_h (o_alloc (cs := [.slice none 0 0]) hO Try.zeroValue82 rfl) (by rintro _ H_95 ⟨b_96, rfl, hO⟩; exact ⟨_, (Own.sel (Ls := [box b_96 [.slice none 0 0] 82, own fBool 4 v_91 (reachL t.States t.Ends back), box b_88 [.slice none 0 0] 82, own fBool 4 v_65 (reachL t.States t.Starts xon), fz (Rep.sl fInt.rep) v_26 back, fz (Rep.sl fInt.rep) v_23 xon, box b_21 [.int .i64 t.States, v_1, v_3, v_5] 28, fz fGArc.rep v_5 t.Arcs, fz fGTip.rep v_3 t.Ends, fz fGTip.rep v_1 t.Starts, inZ Z]) (L := L) [6, 7, 8, 9, 10] rfl hO)⟩) rfl ?_
       rintro _ H_95 ⟨b_96, rfl, hO⟩
       refine hd_s (o_store1 hO 2 rfl Try.sizeOf82 rfl rfl rfl (Sl.one (hO.osl 3 rfl))) (by rintro _ H_97 hO; exact ⟨_, (Own.sel (Ls := [box b_96 [.slice none 0 0] 82, own fBool 4 v_91 (reachL t.States t.Ends back), box b_88 [v_65] 82, own fBool 4 v_65 (reachL t.States t.Starts xon), fz (Rep.sl fInt.rep) v_26 back, fz (Rep.sl fInt.rep) v_23 xon, box b_21 [.int .i64 t.States, v_1, v_3, v_5] 28, fz fGArc.rep v_5 t.Arcs, fz fGTip.rep v_3 t.Ends, fz fGTip.rep v_1 t.Starts, inZ Z]) (L := L) [6, 7, 8, 9, 10] rfl hO)⟩) ?_
       rintro _ H_97 hO
       refine hd_nil (hd_s (o_store1 hO 0 rfl Try.sizeOf82 rfl rfl rfl (Sl.one (hO.osl 1 rfl))) (fun _ _ _ => trivial) ?_)
       rintro _ H_98 hO
       replace hO : Own H_98 Z_93 (box b_96 [v_91] 82 :: own fBool 4 v_91 (reachL t.States t.Ends back) :: box b_88 [v_65] 82 :: own fBool 4 v_65 (reachL t.States t.Starts xon) :: fz (Rep.sl fInt.rep) v_26 back :: fz (Rep.sl fInt.rep) v_23 xon :: box b_21 [.int .i64 t.States, v_1, v_3, v_5] 28 :: fz fGArc.rep v_5 t.Arcs :: fz fGTip.rep v_3 t.Ends :: fz fGTip.rep v_1 t.Starts :: inZ Z :: L) := hO
       refine hd_nil ?_
       exact ⟨rfl, v_65, v_91, b_88, b_96, _, (a_c 1 rfl (a_c 7 rfl (a_c 8 rfl a_n))), (Own.sel (Ls := [box b_96 [v_91] 82, own fBool 4 v_91 (reachL t.States t.Ends back), box b_88 [v_65] 82, own fBool 4 v_65 (reachL t.States t.Starts xon), fz (Rep.sl fInt.rep) v_26 back, fz (Rep.sl fInt.rep) v_23 xon, box b_21 [.int .i64 t.States, v_1, v_3, v_5] 28, fz fGArc.rep v_5 t.Arcs, fz fGTip.rep v_3 t.Ends, fz fGTip.rep v_1 t.Starts, inZ Z]) (L := L) [0, 2, 1, 3, 4, 5, 6, 7, 8, 9, 10] rfl hO)⟩
      ·refine hd_h (o_alloc (cs := [.slice none 0 0]) hO Try.zeroValue82 rfl) (by rintro _ H_99 ⟨b_100, rfl, hO⟩; exact ⟨_, (Own.sel (Ls := [box b_100 [.slice none 0 0] 82, box b_88 [.slice none 0 0] 82, own fBool 4 v_65 (reachL t.States t.Starts xon), ownN fInt 81 3 v_26 back, fz (Rep.sl fInt.rep) v_23 xon, box b_21 [.int .i64 t.States, v_1, v_3, v_5] 28, fz fGArc.rep v_5 t.Arcs, fz fGTip.rep v_3 t.Ends, fz fGTip.rep v_1 t.Starts, inZ Z]) (L := L) [5, 6, 7, 8, 9] rfl hO)⟩) rfl ?_
       rintro _ H_99 ⟨b_100, rfl, hO⟩
       obtain ⟨Z_101, _, hO⟩ := hO.freezeN (i := 3) rfl
       obtain ⟨hs_102, h⟩ := h
       refine hd_h (h_call Try.call37 (evs_cons rfl (evs_cons rfl (evs_cons rfl evs_nil))) (reachP_spec (a0 := t.States) (a1 := t.Ends) (a2 := back) hs_102 hO (Rd.of_fz (i := 7) rfl) (Fz.of (i := 3) rfl))) (by rintro v_103 H_104 ⟨Z_105, _, _, rfl, hO⟩; exact ⟨_, (Own.sel (Ls := [own fBool 4 v_103 (reachL t.States t.Ends back), box b_100 [.slice none 0 0] 82, box b_88 [.slice none 0 0] 82, own fBool 4 v_65 (reachL t.States t.Starts xon), fz (Rep.sl fInt.rep) v_26 back, fz (Rep.sl fInt.rep) v_23 xon, box b_21 [.int .i64 t.States, v_1, v_3, v_5] 28, fz fGArc.rep v_5 t.Arcs, fz fGTip.rep v_3 t.Ends, fz fGTip.rep v_1 t.Starts, inZ Z]) (L := L) [6, 7, 8, 9, 10] rfl hO)⟩) rfl ?_
       rintro v_103 H_104 ⟨Z_105, _, _, rfl, hO⟩
       refine hd_s (o_store1 hO 2 rfl Try.sizeOf82 rfl rfl rfl (Sl.one (hO.osl 3 rfl))) (by rintro _ H_107 hO; exact ⟨_, (Own.sel (Ls := [own fBool 4 v_103 (reachL t.States t.Ends back), box b_100 [.slice none 0 0] 82, box b_88 [v_65] 82, own fBool 4 v_65 (reachL t.States t.Starts xon), fz (Rep.sl fInt.rep) v_26 back, fz (Rep.sl fInt.rep) v_23 xon, box b_21 [.int .i64 t.States, v_1, v_3, v_5] 28, fz fGArc.rep v_5 t.Arcs, fz fGTip.rep v_3 t.Ends, fz fGTip.rep v_1 t.Starts, inZ Z]) (L := L) [6, 7, 8, 9, 10] rfl hO)⟩) ?_
       rintro _ H_107 hO
       refine hd_nil (hd_s (o_store1 hO 1 rfl Try.sizeOf82 rfl rfl rfl (Sl.one (hO.osl 0 rfl))) (fun _ _ _ => trivial) ?_)
       rintro _ H_108 hO
       replace hO : Own H_108 Z_105 (own fBool 4 v_103 (reachL t.States t.Ends back) :: box b_100 [v_103] 82 :: box b_88 [v_65] 82 :: own fBool 4 v_65 (reachL t.States t.Starts xon) :: fz (Rep.sl fInt.rep) v_26 back :: fz (Rep.sl fInt.rep) v_23 xon :: box b_21 [.int .i64 t.States, v_1, v_3, v_5] 28 :: fz fGArc.rep v_5 t.Arcs :: fz fGTip.rep v_3 t.Ends :: fz fGTip.rep v_1 t.Starts :: inZ Z :: L) := hO
       refine hd_nil ?_
       exact ⟨rfl, v_65, v_103, b_88, b_100, _, (a_c 1 rfl (a_c 7 rfl (a_c 8 rfl a_n))), (Own.sel (Ls := [own fBool 4 v_103 (reachL t.States t.Ends back), box b_100 [v_103] 82, box b_88 [v_65] 82, own fBool 4 v_65 (reachL t.States t.Starts xon), fz (Rep.sl fInt.rep) v_26 back, fz (Rep.sl fInt.rep) v_23 xon, box b_21 [.int .i64 t.States, v_1, v_3, v_5] 28, fz fGArc.rep v_5 t.Arcs, fz fGTip.rep v_3 t.Ends, fz fGTip.rep v_1 t.Starts, inZ Z]) (L := L) [1, 2, 0, 3, 4, 5, 6, 7, 8, 9, 10] rfl hO)⟩
     ·refine hd_h (o_alloc (cs := [.slice none 0 0]) hO Try.zeroValue82 rfl) (by rintro _ H_109 ⟨b_110, rfl, hO⟩; exact ⟨_, (Own.sel (Ls := [box b_110 [.slice none 0 0] 82, own fBool 4 v_65 (reachL t.States t.Starts xon), ownN fInt 81 3 v_26 back, fz (Rep.sl fInt.rep) v_23 xon, box b_21 [.int .i64 t.States, v_1, v_3, v_5] 28, fz fGArc.rep v_5 t.Arcs, fz fGTip.rep v_3 t.Ends, fz fGTip.rep v_1 t.Starts, inZ Z]) (L := L) [4, 5, 6, 7, 8] rfl hO)⟩) rfl ?_
      rintro _ H_109 ⟨b_110, rfl, hO⟩
      refine hd_two ?_ ?_
      ·obtain ⟨Z_111, _, hO⟩ := hO.freezeN (i := 2) rfl
       obtain ⟨hs_112, h⟩ := h
       refine hd_h (h_call Try.call37 (evs_cons rfl (evs_cons rfl (evs_cons rfl evs_nil))) (reachP_spec (a0 := t.States) (a1 := t.Ends) (a2 := back) hs_112 hO (Rd.of_fz (i := 6) rfl) (Fz.of (i := 2) rfl))) (by rintro v_113 H_114 ⟨Z_115, _, _, rfl, hO⟩; exact ⟨_, (Own.sel (Ls := [own fBool 4 v_113 (reachL t.States t.Ends back), box b_110 [.slice none 0 0] 82, own fBool 4 v_65 (reachL t.States t.Starts xon), fz (Rep.sl fInt.rep) v_26 back, fz (Rep.sl fInt.rep) v_23 xon, box b_21 [.int .i64 t.States, v_1, v_3, v_5] 28, fz fGArc.rep v_5 t.Arcs, fz fGTip.rep v_3 t.Ends, fz fGTip.rep v_1 t.Starts, inZ Z]) (L := L) [5, 6, 7, 8, 9] rfl hO)⟩) rfl ?_
       rintro v_113 H_114 ⟨Z_115, _, _, rfl, hO⟩
       refine hd_h (o_alloc (cs := [.slice none 0 0]) hO Try.zeroValue82 rfl) (by rintro _ H_117 ⟨b_118, rfl, hO⟩; exact ⟨_, (Own.sel (Ls := [box b_118 [.slice none 0 0] 82, own fBool 4 v_113 (reachL t.States t.Ends back), box b_110 [.slice none 0 0] 82, own fBool 4 v_65 (reachL t.States t.Starts xon), fz (Rep.sl fInt.rep) v_26 back, fz (Rep.sl fInt.rep) v_23 xon, box b_21 [.int .i64 t.States, v_1, v_3, v_5] 28, fz fGArc.rep v_5 t.Arcs, fz fGTip.rep v_3 t.Ends, fz fGTip.rep v_1 t.Starts, inZ Z]) (L := L) [6, 7, 8, 9, 10] rfl hO)⟩) rfl ?_
       rintro _ H_117 ⟨b_118, rfl, hO⟩
       refine hd_s (o_store1 hO 0 rfl Try.sizeOf82 rfl rfl rfl (Sl.one (hO.osl 3 rfl))) (by rintro _ H_119 hO; exact ⟨_, (Own.sel (Ls := [box b_118 [v_65] 82, own fBool 4 v_113 (reachL t.States t.Ends back), box b_110 [.slice none 0 0] 82, own fBool 4 v_65 (reachL t.States t.Starts xon), fz (Rep.sl fInt.rep) v_26 back, fz (Rep.sl fInt.rep) v_23 xon, box b_21 [.int .i64 t.States, v_1, v_3, v_5] 28, fz fGArc.rep v_5 t.Arcs, fz fGTip.rep v_3 t.Ends, fz fGTip.rep v_1 t.Starts, inZ Z]) (L := L) [6, 7, 8, 9, 10] rfl hO)⟩) ?_
       rintro _ H_119 hO
       refine hd_nil (hd_s (o_store1 hO 2 rfl Try.sizeOf82 rfl rfl rfl (Sl.one (hO.osl 1 rfl))) (fun _ _ _ => trivial) ?_)
       rintro _ H_120 hO
       replace hO : Own H_120 Z_115 (box b_118 [v_65] 82 :: own fBool 4 v_113 (reachL t.States t.Ends back) :: box b_110 [v_113] 82 :: own fBool 4 v_65 (reachL t.States t.Starts xon) :: fz (Rep.sl fInt.rep) v_26 back :: fz (Rep.sl fInt.rep) v_23 xon :: box b_21 [.int .i64 t.States, v_1, v_3, v_5] 28 :: fz fGArc.rep v_5 t.Arcs :: fz fGTip.rep v_3 t.Ends :: fz fGTip.rep v_1 t.Starts :: inZ Z :: L) := hO
       refine hd_nil ?_
       exact ⟨rfl, v_65, v_113, b_118, b_110, _, (a_c 1 rfl (a_c 7 rfl (a_c 8 rfl a_n))), (Own.sel (Ls := [box b_118 [v_65] 82, own fBool 4 v_113 (reachL t.States t.Ends back), box b_110 [v_113] 82, own fBool 4 v_65 (reachL t.States t.Starts xon), fz (Rep.sl fInt.rep) v_26 back, fz (Rep.sl fInt.rep) v_23 xon, box b_21 [.int .i64 t.States, v_1, v_3, v_5] 28, fz fGArc.rep v_5 t.Arcs, fz fGTip.rep v_3 t.Ends, fz fGTip.rep v_1 t.Starts, inZ Z]) (L := L) [2, 0, 1, 3, 4, 5, 6, 7, 8, 9, 10] rfl hO)⟩
      ·refine hd_h (o_alloc (cs := [.slice none 0 0]) hO Try.zeroValue82 rfl) (by rintro _ H_121 ⟨b_122, rfl, hO⟩; exact ⟨_, (Own.sel (Ls := [box b_122 [.slice none 0 0] 82, box b_110 [.slice none 0 0] 82, own fBool 4 v_65 (reachL t.States t.Starts xon), ownN fInt 81 3 v_26 back, fz (Rep.sl fInt.rep) v_23 xon, box b_21 [.int .i64 t.States, v_1, v_3, v_5] 28, fz fGArc.rep v_5 t.Arcs, fz fGTip.rep v_3 t.Ends, fz fGTip.rep v_1 t.Starts, inZ Z]) (L := L) [5, 6, 7, 8, 9] rfl hO)⟩) rfl ?_
       rintro _ H_121 ⟨b_122, rfl, hO⟩
       obtain ⟨Z_123, _, hO⟩ := hO.freezeN (i := 3) rfl
       obtain ⟨hs_124, h⟩ := h
       refine hd_h (h_call Try.call37 (evs_cons rfl (evs_cons rfl (evs_cons rfl evs_nil))) (reachP_spec (a0 := t.States) (a1 := t.Ends) (a2 := back) hs_124 hO (Rd.of_fz (i := 7) rfl) (Fz.of (i := 3) rfl))) (by rintro v_125 H_126 ⟨Z_127, _, _, rfl, hO⟩; exact ⟨_, (Own.sel (Ls := [own fBool 4 v_125 (reachL t.States t.Ends back), box b_122 [.slice none 0 0] 82, box b_110 [.slice none 0 0] 82, own fBool 4 v_65 (reachL t.States t.Starts xon), fz (Rep.sl fInt.rep) v_26 back, fz (Rep.sl fInt.rep) v_23 xon, box b_21 [.int .i64 t.States, v_1, v_3, v_5] 28, fz fGArc.rep v_5 t.Arcs, fz fGTip.rep v_3 t.Ends, fz fGTip.rep v_1 t.Starts, inZ Z]) (L := L) [6, 7, 8, 9, 10] rfl hO)⟩) rfl ?_
       rintro v_125 H_126 ⟨Z_127, _, _, rfl, hO⟩
       refine hd_s (o_store1 hO 1 rfl Try.sizeOf82 rfl rfl rfl (Sl.one (hO.osl 3 rfl))) (by rintro _ H_129 hO; exact ⟨_, (Own.sel (Ls := [own fBool 4 v_125 (reachL t.States t.Ends back), box b_122 [v_65] 82, box b_110 [.slice none 0 0] 82, own fBool 4 v_65 (reachL t.States t.Starts xon), fz (Rep.sl fInt.rep) v_26 back, fz (Rep.sl fInt.rep) v_23 xon, box b_21 [.int .i64 t.States, v_1, v_3, v_5] 28, fz fGArc.rep v_5 t.Arcs, fz fGTip.rep v_3 t.Ends, fz fGTip.rep v_1 t.Starts, inZ Z]) (L := L) [6, 7, 8, 9, 10] rfl hO)⟩) ?_
       rintro _ H_129 hO
       refine hd_nil (hd_s (o_store1 hO 2 rfl Try.sizeOf82 rfl rfl rfl (Sl.one (hO.osl 0 rfl))) (fun _ _ _ => trivial) ?_)
       rintro _ H_130 hO
       replace hO : Own H_130 Z_127 (own fBool 4 v_125 (reachL t.States t.Ends back) :: box b_122 [v_65] 82 :: box b_110 [v_125] 82 :: own fBool 4 v_65 (reachL t.States t.Starts xon) :: fz (Rep.sl fInt.rep) v_26 back :: fz (Rep.sl fInt.rep) v_23 xon :: box b_21 [.int .i64 t.States, v_1, v_3, v_5] 28 :: fz fGArc.rep v_5 t.Arcs :: fz fGTip.rep v_3 t.Ends :: fz fGTip.rep v_1 t.Starts :: inZ Z :: L) := hO
       refine hd_nil ?_
       exact ⟨rfl, v_65, v_125, b_122, b_110, _, (a_c 1 rfl (a_c 7 rfl (a_c 8 rfl a_n))), (Own.sel (Ls := [own fBool 4 v_125 (reachL t.States t.Ends back), box b_122 [v_65] 82, box b_110 [v_125] 82, own fBool 4 v_65 (reachL t.States t.Starts xon), fz (Rep.sl fInt.rep) v_26 back, fz (Rep.sl fInt.rep) v_23 xon, box b_21 [.int .i64 t.States, v_1, v_3, v_5] 28, fz fGArc.rep v_5 t.Arcs, fz fGTip.rep v_3 t.Ends, fz fGTip.rep v_1 t.Starts, inZ Z]) (L := L) [2, 1, 0, 3, 4, 5, 6, 7, 8, 9, 10] rfl hO)⟩
    ·refine hd_h (o_alloc (cs := [.slice none 0 0]) hO Try.zeroValue82 rfl) (by rintro _ H_131 ⟨b_132, rfl, hO⟩; exact ⟨_, (Own.sel (Ls := [box b_132 [.slice none 0 0] 82, ownN fInt 81 3 v_26 back, ownN fInt 81 3 v_23 xon, box b_21 [.int .i64 t.States, v_1, v_3, v_5] 28, fz fGArc.rep v_5 t.Arcs, fz fGTip.rep v_3 t.Ends, fz fGTip.rep v_1 t.Starts, inZ Z]) (L := L) [3, 4, 5, 6, 7] rfl hO)⟩) rfl ?_
     rintro _ H_131 ⟨b_132, rfl, hO⟩
     refine hd_two ?_ ?_
     ·obtain ⟨Z_133, _, hO⟩ := hO.freezeN (i := 2) rfl
      obtain ⟨hs_134, h⟩ := h
      refine hd_h (h_call Try.call37 (evs_cons rfl (evs_cons rfl (evs_cons rfl evs_nil))) (reachP_spec (a0 := t.States) (a1 := t.Starts) (a2 := xon) hs_134 hO (Rd.of_fz (i := 6) rfl) (Fz.of (i := 2) rfl))) (by rintro v_135 H_136 ⟨Z_137, _, _, rfl, hO⟩; exact ⟨_, (Own.sel (Ls := [own fBool 4 v_135 (reachL t.States t.Starts xon), box b_132 [.slice none 0 0] 82, ownN fInt 81 3 v_26 back, fz (Rep.sl fInt.rep) v_23 xon, box b_21 [.int .i64 t.States, v_1, v_3, v_5] 28, fz fGArc.rep v_5 t.Arcs, fz fGTip.rep v_3 t.Ends, fz fGTip.rep v_1 t.Starts, inZ Z]) (L := L) [4, 5, 6, 7, 8] rfl hO)⟩) rfl ?_
      rintro v_135 H_136 ⟨Z_137, _, _, rfl, hO⟩
      refine hd_two ?_ ?_
      ·obtain ⟨Z_139, _, hO⟩ := hO.freezeN (i := 2) rfl
       obtain ⟨hs_140, h⟩ := h
       refine hd_h (h_call Try.call37 (evs_cons rfl (evs_cons rfl (evs_cons rfl evs_nil))) (reachP_spec (a0 := t.States) (a1 := t.Ends) (a2 := back) hs_140 hO (Rd.of_fz (i := 6) rfl) (Fz.of (i := 2) rfl))) (by rintro v_141 H_142 ⟨Z_143, _, _, rfl, hO⟩; exact ⟨_, (Own.sel (Ls := [own fBool 4 v_141 (reachL t.States t.Ends back), own fBool 4 v_135 (reachL t.States t.Starts xon), box b_132 [.slice none 0 0] 82, fz (Rep.sl fInt.rep) v_26 back, fz (Rep.sl fInt.rep) v_23 xon, box b_21 [.int .i64 t.States, v_1, v_3, v_5] 28, fz fGArc.rep v_5 t.Arcs, fz fGTip.rep v_3 t.Ends, fz fGTip.rep v_1 t.Starts, inZ Z]) (L := L) [5, 6, 7, 8, 9] rfl hO)⟩) rfl ?_
       rintro v_141 H_142 ⟨Z_143, _, _, rfl, hO⟩
       refine hd_h (o_alloc (cs := [.slice none 0 0]) hO Try.zeroValue82 rfl) (by rintro _ H_145 ⟨b_146, rfl, hO⟩; exact ⟨_, (Own.sel (Ls := [box b_146 [.slice none 0 0] 82, own fBool 4 v_141 (reachL t.States t.Ends back), own fBool 4 v_135 (reachL t.States t.Starts xon), box b_132 [.slice none 0 0] 82, fz (Rep.sl fInt.rep) v_26 back, fz (Rep.sl fInt.rep) v_23 xon, box b_21 [.int .i64 t.States, v_1, v_3, v_5] 28, fz fGArc.rep v_5 t.Arcs, fz fGTip.rep v_3 t.Ends, fz fGTip.rep v_1 t.Starts, inZ Z]) (L := L) [6, 7, 8, 9, 10] rfl hO)⟩) rfl ?_
       rintro _ H_145 ⟨b_146, rfl, hO⟩
       refine hd_s (o_store1 hO 3 rfl Try.sizeOf82 rfl rfl rfl (Sl.one (hO.osl 2 rfl))) (by rintro _ H_147 hO; exact ⟨_, (Own.sel (Ls := [box b_146 [.slice none 0 0] 82, own fBool 4 v_141 (reachL t.States t.Ends back), own fBool 4 v_135 (reachL t.States t.Starts xon), box b_132 [v_135] 82, fz (Rep.sl fInt.rep) v_26 back, fz (Rep.sl fInt.rep) v_23 xon, box b_21 [.int .i64 t.States, v_1, v_3, v_5] 28, fz fGArc.rep v_5 t.Arcs, fz fGTip.rep v_3 t.Ends, fz fGTip.rep v_1 t.Starts, inZ Z]) (L := L) [6, 7, 8, 9, 10] rfl hO)⟩) ?_
       rintro _ H_147 hO
       refine hd_nil (hd_s (o_store1 hO 0 rfl Try.sizeOf82 rfl rfl rfl (Sl.one (hO.osl 1 rfl))) (fun _ _ _ => trivial) ?_)
       rintro _ H_148 hO
       replace hO : Own H_148 Z_143 (box b_146 [v_141] 82 :: own fBool 4 v_141 (reachL t.States t.Ends back) :: own fBool 4 v_135 (reachL t.States t.Starts xon) :: box b_132 [v_135] 82 :: fz (Rep.sl fInt.rep) v_26 back :: fz (Rep.sl fInt.rep) v_23 xon :: box b_21 [.int .i64 t.States, v_1, v_3, v_5] 28 :: fz fGArc.rep v_5 t.Arcs :: fz fGTip.rep v_3 t.Ends :: fz fGTip.rep v_1 t.Starts :: inZ Z :: L) := hO
       refine hd_nil ?_
       exact ⟨rfl, v_135, v_141, b_132, b_146, _, (a_c 1 rfl (a_c 7 rfl (a_c 8 rfl a_n))), (Own.sel (Ls := [box b_146 [v_141] 82, own fBool 4 v_141 (reachL t.States t.Ends back), own fBool 4 v_135 (reachL t.States t.Starts xon), box b_132 [v_135] 82, fz (Rep.sl fInt.rep) v_26 back, fz (Rep.sl fInt.rep) v_23 xon, box b_21 [.int .i64 t.States, v_1, v_3, v_5] 28, fz fGArc.rep v_5 t.Arcs, fz fGTip.rep v_3 t.Ends, fz fGTip.rep v_1 t.Starts, inZ Z]) (L := L) [0, 3, 1, 2, 4, 5, 6, 7, 8, 9, 10] rfl hO)⟩
      ·refine hd_h (o_alloc (cs := [.slice none 0 0]) hO Try.zeroValue82 rfl) (by rintro _ H_149 ⟨b_150, rfl, hO⟩; exact ⟨_, (Own.sel (Ls := [box b_150 [.slice none 0 0] 82, own fBool 4 v_135 (reachL t.States t.Starts xon), box b_132 [.slice none 0 0] 82, ownN fInt 81 3 v_26 back, fz (Rep.sl fInt.rep) v_23 xon, box b_21 [.int .i64 t.States, v_1, v_3, v_5] 28, fz fGArc.rep v_5 t.Arcs, fz fGTip.rep v_3 t.Ends, fz fGTip.rep v_1 t.Starts, inZ Z]) (L := L) [5, 6, 7, 8, 9] rfl hO)⟩) rfl ?_
       rintro _ H_149 ⟨b_150, rfl, hO⟩
       obtain ⟨Z_151, _, hO⟩ := hO.freezeN (i := 3) rfl
       obtain ⟨hs_152, h⟩ := h
       refine hd_h (h_call Try.call37 (evs_cons rfl (evs_cons rfl (evs_cons rfl evs_nil))) (reachP_spec (a0 := t.States) (a1 := t.Ends) (a2 := back) hs_152 hO (Rd.of_fz (i := 7) rfl) (Fz.of (i := 3) rfl))) (by rintro v_153 H_154 ⟨Z_155, _, _, rfl, hO⟩; exact ⟨_, (Own.sel (Ls := [own fBool 4 v_153 (reachL t.States t.Ends back), box b_150 [.slice none 0 0] 82, own fBool 4 v_135 (reachL t.States t.Starts xon), box b_132 [.slice none 0 0] 82, fz (Rep.sl fInt.rep) v_26 back, fz (Rep.sl fInt.rep) v_23 xon, box b_21 [.int .i64 t.States, v_1, v_3, v_5] 28, fz fGArc.rep v_5 t.Arcs, fz fGTip.rep v_3 t.Ends, fz fGTip.rep v_1 t.Starts, inZ Z]) (L := L) [6, 7, 8, 9, 10] rfl hO)⟩) rfl ?_
       rintro v_153 H_154 ⟨Z_155, _, _, rfl, hO⟩
       refine hd_s (o_store1 hO 3 rfl Try.sizeOf82 rfl rfl rfl (Sl.one (hO.osl 2 rfl))) (by rintro _ H_157 hO; exact ⟨_, (Own.sel (Ls := [own fBool 4 v_153 (reachL t.States t.Ends back), box b_150 [.slice none 0 0] 82, own fBool 4 v_135 (reachL t.States t.Starts xon), box b_132 [v_135] 82, fz (Rep.sl fInt.rep) v_26 back, fz (Rep.sl fInt.rep) v_23 xon, box b_21 [.int .i64 t.States, v_1, v_3, v_5] 28, fz fGArc.rep v_5 t.Arcs, fz fGTip.rep v_3 t.Ends, fz fGTip.rep v_1 t.Starts, inZ Z]) (L := L) [6, 7, 8, 9, 10] rfl hO)⟩) ?_
       rintro _ H_157 hO
       refine hd_nil (hd_s (o_store1 hO 1 rfl Try.sizeOf82 rfl rfl rfl (Sl.one (hO.osl 0 rfl))) (fun _ _ _ => trivial) ?_)
       rintro _ H_158 hO
       replace hO : Own H_158 Z_155 (own fBool 4 v_153 (reachL t.States t.Ends back) :: box b_150 [v_153] 82 :: own fBool 4 v_135 (reachL t.States t.Starts xon) :: box b_132 [v_135] 82 :: fz (Rep.sl fInt.rep) v_26 back :: fz (Rep.sl fInt.rep) v_23 xon :: box b_21 [.int .i64 t.States, v_1, v_3, v_5] 28 :: fz fGArc.rep v_5 t.Arcs :: fz fGTip.rep v_3 t.Ends :: fz fGTip.rep v_1 t.Starts :: inZ Z :: L) := hO
       refine hd_nil ?_
       exact ⟨rfl, v_135, v_153, b_132, b_150, _, (a_c 1 rfl (a_c 7 rfl (a_c 8 rfl a_n))), (Own.sel (Ls := [own fBool 4 v_153 (reachL t.States t.Ends back), box b_150 [v_153] 82, own fBool 4 v_135 (reachL t.States t.Starts xon), box b_132 [v_135] 82, fz (Rep.sl fInt.rep) v_26 back, fz (Rep.sl fInt.rep) v_23 xon, box b_21 [.int .i64 t.States, v_1, v_3, v_5] 28, fz fGArc.rep v_5 t.Arcs, fz fGTip.rep v_3 t.Ends, fz fGTip.rep v_1 t.Starts, inZ Z]) (L := L) [1, 3, 0, 2, 4, 5, 6, 7, 8, 9, 10] rfl hO)⟩
     ·refine hd_h (o_alloc (cs := [.slice none 0 0]) hO Try.zeroValue82 rfl) (by rintro _ H_159 ⟨b_160, rfl, hO⟩; exact ⟨_, (Own.sel (Ls := [box b_160 [.slice none 0 0] 82, box b_132 [.slice none 0 0] 82, ownN fInt 81 3 v_26 back, ownN fInt 81 3 v_23 xon, box b_21 [.int .i64 t.States, v_1, v_3, v_5] 28, fz fGArc.rep v_5 t.Arcs, fz fGTip.rep v_3 t.Ends, fz fGTip.rep v_1 t.Starts, inZ Z]) (L := L) [4, 5, 6, 7, 8] rfl hO)⟩) rfl ?_
      rintro _ H_159 ⟨b_160, rfl, hO⟩
      obtain ⟨Z_161, _, hO⟩ := hO.freezeN (i := 3) rfl
      obtain ⟨hs_162, h⟩ := h
      refine hd_h (h_call Try.call37 (evs_cons rfl (evs_cons rfl (evs_cons rfl evs_nil))) (reachP_spec (a0 := t.States) (a1 := t.Starts) (a2 := xon) hs_162 hO (Rd.of_fz (i := 7) rfl) (Fz.of (i := 3) rfl))) (by rintro v_163 H_164 ⟨Z_165, _, _, rfl, hO⟩; exact ⟨_, (Own.sel (Ls := [own fBool 4 v_163 (reachL t.States t.Starts xon), box b_160 [.slice none 0 0] 82, box b_132 [.slice none 0 0] 82, ownN fInt 81 3 v_26 back, fz (Rep.sl fInt.rep) v_23 xon, box b_21 [.int .i64 t.States, v_1, v_3, v_5] 28, fz fGArc.rep v_5 t.Arcs, fz fGTip.rep v_3 t.Ends, fz fGTip.rep v_1 t.Starts, inZ Z]) (L := L) [5, 6, 7, 8, 9] rfl hO)⟩) rfl ?_
      rintro v_163 H_164 ⟨Z_165, _, _, rfl, hO⟩
      obtain ⟨Z_167, _, hO⟩ := hO.freezeN (i := 3) rfl
      obtain ⟨hs_168, h⟩ := h
      refine hd_h (h_call Try.call37 (evs_cons rfl (evs_cons rfl (evs_cons rfl evs_nil))) (reachP_spec (a0 := t.States) (a1 := t.Ends) (a2 := back) hs_168 hO (Rd.of_fz (i := 7) rfl) (Fz.of (i := 3) rfl))) (by rintro v_169 H_170 ⟨Z_171, _, _, rfl, hO⟩; exact ⟨_, (Own.sel (Ls := [own fBool 4 v_169 (reachL t.States t.Ends back), own fBool 4 v_163 (reachL t.States t.Starts xon), box b_160 [.slice none 0 0] 82, box b_132 [.slice none 0 0] 82, fz (Rep.sl fInt.rep) v_26 back, fz (Rep.sl fInt.rep) v_23 xon, box b_21 [.int .i64 t.States, v_1, v_3, v_5] 28, fz fGArc.rep v_5 t.Arcs, fz fGTip.rep v_3 t.Ends, fz fGTip.rep v_1 t.Starts, inZ Z]) (L := L) [6, 7, 8, 9, 10] rfl hO)⟩) rfl ?_
      rintro v_169 H_170 ⟨Z_171, _, _, rfl, hO⟩
      refine hd_s (o_store1 hO 3 rfl Try.sizeOf82 rfl rfl rfl (Sl.one (hO.osl 1 rfl))) (by rintro _ H_173 hO; exact ⟨_, (Own.sel (Ls := [own fBool 4 v_169 (reachL t.States t.Ends back), own fBool 4 v_163 (reachL t.States t.Starts xon), box b_160 [.slice none 0 0] 82, box b_132 [v_163] 82, fz (Rep.sl fInt.rep) v_26 back, fz (Rep.sl fInt.rep) v_23 xon, box b_21 [.int .i64 t.States, v_1, v_3, v_5] 28, fz fGArc.rep v_5 t.Arcs, fz fGTip.rep v_3 t.Ends, fz fGTip.rep v_1 t.Starts, inZ Z]) (L := L) [6, 7, 8, 9, 10] rfl hO)⟩) ?_
      rintro _ H_173 hO
      refine hd_nil (hd_s (o_store1 hO 2 rfl Try.sizeOf82 rfl rfl rfl (Sl.one (hO.osl 0 rfl))) (fun _ _ _ => trivial) ?_)
      rintro _ H_174 hO
      replace hO : Own H_174 Z_171 (own fBool 4 v_169 (reachL t.States t.Ends back) :: own fBool 4 v_163 (reachL t.States t.Starts xon) :: box b_160 [v_169] 82 :: box b_132 [v_163] 82 :: fz (Rep.sl fInt.rep) v_26 back :: fz (Rep.sl fInt.rep) v_23 xon :: box b_21 [.int .i64 t.States, v_1, v_3, v_5] 28 :: fz fGArc.rep v_5 t.Arcs :: fz fGTip.rep v_3 t.Ends :: fz fGTip.rep v_1 t.Starts :: inZ Z :: L) := hO
      refine hd_nil ?_
      exact ⟨rfl, v_163, v_169, b_132, b_160, _, (a_c 1 rfl (a_c 7 rfl (a_c 8 rfl a_n))), (Own.sel (Ls := [own fBool 4 v_169 (reachL t.States t.Ends back), own fBool 4 v_163 (reachL t.States t.Starts xon), box b_160 [v_169] 82, box b_132 [v_163] 82, fz (Rep.sl fInt.rep) v_26 back, fz (Rep.sl fInt.rep) v_23 xon, box b_21 [.int .i64 t.States, v_1, v_3, v_5] 28, fz fGArc.rep v_5 t.Arcs, fz fGTip.rep v_3 t.Ends, fz fGTip.rep v_1 t.Starts, inZ Z]) (L := L) [2, 3, 0, 1, 4, 5, 6, 7, 8, 9, 10] rfl hO)⟩
    ·refine hd_h (o_alloc (cs := [.slice none 0 0]) hO Try.zeroValue82 rfl) (by rintro _ H_175 ⟨b_176, rfl, hO⟩; exact ⟨_, (Own.sel (Ls := [box b_176 [.slice none 0 0] 82, ownN fInt 81 3 v_26 back, ownN fInt 81 3 v_23 xon, box b_21 [.int .i64 t.States, v_1, v_3, v_5] 28, fz fGArc.rep v_5 t.Arcs, fz fGTip.rep v_3 t.Ends, fz fGTip.rep v_1 t.Starts, inZ Z]) (L := L) [3, 4, 5, 6, 7] rfl hO)⟩) rfl ?_
     rintro _ H_175 ⟨b_176, rfl, hO⟩
     refine hd_two ?_ ?_
     ·obtain ⟨Z_177, _, hO⟩ := hO.freezeN (i := 2) rfl
      obtain ⟨hs_178, h⟩ := h
      refine hd_h (h_call Try.call37 (evs_cons rfl (evs_cons rfl (evs_cons rfl evs_nil))) (reachP_spec (a0 := t.States) (a1 := t.Starts) (a2 := xon) hs_178 hO (Rd.of_fz (i := 6) rfl) (Fz.of (i := 2) rfl))) (by rintro v_179 H_180 ⟨Z_181, _, _, rfl, hO⟩; exact ⟨_, (Own.sel (Ls := [own fBool 4 v_179 (reachL t.States t.Starts xon), box b_176 [.slice none 0 0] 82, ownN fInt 81 3 v_26 back, fz (Rep.sl fInt.rep) v_23 xon, box b_21 [.int .i64 t.States, v_1, v_3, v_5] 28, fz fGArc.rep v_5 t.Arcs, fz fGTip.rep v_3 t.Ends, fz fGTip.rep v_1 t.Starts, inZ Z]) (L := L) [4, 5, 6, 7, 8] rfl hO)⟩) rfl ?_
      rintro v_179 H_180 ⟨Z_181, _, _, rfl, hO⟩
      refine hd_two ?_ ?_
      ·obtain ⟨Z_183, _, hO⟩ := hO.freezeN (i := 2) rfl
       obtain ⟨hs_184, h⟩ := h
       refine hd_h (h_call Try.call37 (evs_cons rfl (evs_cons rfl (evs_cons rfl evs_nil))) (reachP_spec (a0 := t.States) (a1 := t.Ends) (a2 := back) hs_184 hO (Rd.of_fz (i := 6) rfl) (Fz.of (i := 2) rfl))) (by rintro v_185 H_186 ⟨Z_187, _, _, rfl, hO⟩; exact ⟨_, (Own.sel (Ls := [own fBool 4 v_185 (reachL t.States t.Ends back), own fBool 4 v_179 (reachL t.States t.Starts xon), box b_176 [.slice none 0 0] 82, fz (Rep.sl fInt.rep) v_26 back, fz (Rep.sl fInt.rep) v_23 xon, box b_21 [.int .i64 t.States, v_1, v_3, v_5] 28, fz fGArc.rep v_5 t.Arcs, fz fGTip.rep v_3 t.Ends, fz fGTip.rep v_1 t.Starts, inZ Z]) (L := L) [5, 6, 7, 8, 9] rfl hO)⟩) rfl ?_
       rintro v_185 H_186 ⟨Z_187, _, _, rfl, hO⟩
       refine hd_h (o_alloc (cs := [.slice none 0 0]) hO Try.zeroValue82 rfl) (by rintro _ H_189 ⟨b_190, rfl, hO⟩; exact ⟨_, (Own.sel (Ls := [box b_190 [.slice none 0 0] 82, own fBool 4 v_185 (reachL t.States t.Ends back), own fBool 4 v_179 (reachL t.States t.Starts xon), box b_176 [.slice none 0 0] 82, fz (Rep.sl fInt.rep) v_26 back, fz (Rep.sl fInt.rep) v_23 xon, box b_21 [.int .i64 t.States, v_1, v_3, v_5] 28, fz fGArc.rep v_5 t.Arcs, fz fGTip.rep v_3 t.Ends, fz fGTip.rep v_1 t.Starts, inZ Z]) (L := L) [6, 7, 8, 9, 10] rfl hO)⟩) rfl ?_
       rintro _ H_189 ⟨b_190, rfl, hO⟩
       refine hd_s (o_store1 hO 0 rfl Try.sizeOf82 rfl rfl rfl (Sl.one (hO.osl 2 rfl))) (by rintro _ H_191 hO; exact ⟨_, (Own.sel (Ls := [box b_190 [v_179] 82, own fBool 4 v_185 (reachL t.States t.Ends back), own fBool 4 v_179 (reachL t.States t.Starts xon), box b_176 [.slice none 0 0] 82, fz (Rep.sl fInt.rep) v_26 back, fz (Rep.sl fInt.rep) v_23 xon, box b_21 [.int .i64 t.States, v_1, v_3, v_5] 28, fz fGArc.rep v_5 t.Arcs, fz fGTip.rep v_3 t.Ends, fz fGTip.rep v_1 t.Starts, inZ Z]) (L := L) [6, 7, 8, 9, 10] rfl hO)⟩) ?_
       rintro _ H_191 hO
       refine hd_nil (hd_s (o_store1 hO 3 rfl Try.sizeOf82 rfl rfl rfl (Sl.one (hO.osl 1 rfl))) (fun _ _ _ => trivial) ?_)
       rintro _ H_192 hO
       replace hO : Own H_192 Z_187 (box b_190 [v_179] 82 :: own fBool 4 v_185 (reachL t.States t.Ends back) :: own fBool 4 v_179 (reachL t.States t.Starts xon) :: box b_176 [v_185] 82 :: fz (Rep.sl fInt.rep) v_26 back :: fz (Rep.sl fInt.rep) v_23 xon :: box b_21 [.int .i64 t.States, v_1, v_3, v_5] 28 :: fz fGArc.rep v_5 t.Arcs :: fz fGTip.rep v_3 t.Ends :: fz fGTip.rep v_1 t.Starts :: inZ Z :: L) := hO
       refine hd_nil ?_
       exact ⟨rfl, v_179, v_185, b_190, b_176, _, (a_c 1 rfl (a_c 7 rfl (a_c 8 rfl a_n))), (Own.sel (Ls := [box b_190 [v_179] 82, own fBool 4 v_185 (reachL t.States t.Ends back), own fBool 4 v_179 (reachL t.States t.Starts xon), box b_176 [v_185] 82, fz (Rep.sl fInt.rep) v_26 back, fz (Rep.sl fInt.rep) v_23 xon, box b_21 [.int .i64 t.States, v_1, v_3, v_5] 28, fz fGArc.rep v_5 t.Arcs, fz fGTip.rep v_3 t.Ends, fz fGTip.rep v_1 t.Starts, inZ Z]) (L := L) [3, 0, 1, 2, 4, 5, 6, 7, 8, 9, 10] rfl hO)⟩
      ·refine hd_h (o_alloc (cs := [.slice none 0 0]) hO Try.zeroValue82 rfl) (by rintro _ H_193 ⟨b_194, rfl, hO⟩; exact ⟨_, (Own.sel (Ls := [box b_194 [.slice none 0 0] 82, own fBool 4 v_179 (reachL t.States t.Starts xon), box b_176 [.slice none 0 0] 82, ownN fInt 81 3 v_26 back, fz (Rep.sl fInt.rep) v_23 xon, box b_21 [.int .i64 t.States, v_1, v_3, v_5] 28, fz fGArc.rep v_5 t.Arcs, fz fGTip.rep v_3 t.Ends, fz fGTip.rep v_1 t.Starts, inZ Z]) (L := L) [5, 6, 7, 8, 9] rfl hO)⟩) rfl ?_
       rintro _ H_193 ⟨b_194, rfl, hO⟩
       obtain ⟨Z_195, _, hO⟩ := hO.freezeN (i := 3) rfl
       obtain ⟨hs_196, h⟩ := h
       refine hd_h (h_call Try.call37 (evs_cons rfl (evs_cons rfl (evs_cons rfl evs_nil))) (reachP_spec (a0 := t.States) (a1 := t.Ends) (a2 := back) hs_196 hO (Rd.of_fz (i := 7) rfl) (Fz.of (i := 3) rfl))) (by rintro v_197 H_198 ⟨Z_199, _, _, rfl, hO⟩; exact ⟨_, (Own.sel (Ls := [own fBool 4 v_197 (reachL t.States t.Ends back), box b_194 [.slice none 0 0] 82, own fBool 4 v_179 (reachL t.States t.Starts xon), box b_176 [.slice none 0 0] 82, fz (Rep.sl fInt.rep) v_26 back, fz (Rep.sl fInt.rep) v_23 xon, box b_21 [.int .i64 t.States, v_1, v_3, v_5] 28, fz fGArc.rep v_5 t.Arcs, fz fGTip.rep v_3 t.Ends, fz fGTip.rep v_1 t.Starts, inZ Z]) (L := L) [6, 7, 8, 9, 10] rfl hO)⟩) rfl ?_
       rintro v_197 H_198 ⟨Z_199, _, _, rfl, hO⟩
       refine hd_s (o_store1 hO 1 rfl Try.sizeOf82 rfl rfl rfl (Sl.one (hO.osl 2 rfl))) (by rintro _ H_201 hO; exact ⟨_, (Own.sel (Ls := [own fBool 4 v_197 (reachL t.States t.Ends back), box b_194 [v_179] 82, own fBool 4 v_179 (reachL t.States t.Starts xon), box b_176 [.slice none 0 0] 82, fz (Rep.sl fInt.rep) v_26 back, fz (Rep.sl fInt.rep) v_23 xon, box b_21 [.int .i64 t.States, v_1, v_3, v_5] 28, fz fGArc.rep v_5 t.Arcs, fz fGTip.rep v_3 t.Ends, fz fGTip.rep v_1 t.Starts, inZ Z]) (L := L) [6, 7, 8, 9, 10] rfl hO)⟩) ?_
       rintro _ H_201 hO
       refine hd_nil (hd_s (o_store1 hO 3 rfl Try.sizeOf82 rfl rfl rfl (Sl.one (hO.osl 0 rfl))) (fun _ _ _ => trivial) ?_)
       rintro _ H_202 hO
       replace hO : Own H_202 Z_199 (own fBool 4 v_197 (reachL t.States t.Ends back) :: box b_194 [v_179] 82 :: own fBool 4 v_179 (reachL t.States t.Starts xon) :: box b_176 [v_197] 82 :: fz (Rep.sl fInt.rep) v_26 back :: fz (Rep.sl fInt.rep) v_23 xon :: box b_21 [.int .i64 t.States, v_1, v_3, v_5] 28 :: fz fGArc.rep v_5 t.Arcs :: fz fGTip.rep v_3 t.Ends :: fz fGTip.rep v_1 t.Starts :: inZ Z :: L) := hO
       refine hd_nil ?_
       exact ⟨rfl, v_179, v_197, b_194, b_176, _, (a_c 1 rfl (a_c 7 rfl (a_c 8 rfl a_n))), (Own.sel (Ls := [own fBool 4 v_197 (reachL t.States t.Ends back), box b_194 [v_179] 82, own fBool 4 v_179 (reachL t.States t.Starts xon), box b_176 [v_197] 82, fz (Rep.sl fInt.rep) v_26 back, fz (Rep.sl fInt.rep) v_23 xon, box b_21 [.int .i64 t.States, v_1, v_3, v_5] 28, fz fGArc.rep v_5 t.Arcs, fz fGTip.rep v_3 t.Ends, fz fGTip.rep v_1 t.Starts, inZ Z]) (L := L) [3, 1, 0, 2, 4, 5, 6, 7, 8, 9, 10] rfl hO)⟩
     ·refine hd_h (o_alloc (cs := [.slice none 0 0]) hO Try.zeroValue82 rfl) (by rintro _ H_203 ⟨b_204, rfl, hO⟩; exact ⟨_, (Own.sel (Ls := [box b_204 [.slice none 0 0] 82, box b_176 [.slice none 0 0] 82, ownN fInt 81 3 v_26 back, ownN fInt 81 3 v_23 xon, box b_21 [.int .i64 t.States, v_1, v_3, v_5] 28, fz fGArc.rep v_5 t.Arcs, fz fGTip.rep v_3 t.Ends, fz fGTip.rep v_1 t.Starts, inZ Z]) (L := L) [4, 5, 6, 7, 8] rfl hO)⟩) rfl ?_
      rintro _ H_203 ⟨b_204, rfl, hO⟩
      obtain ⟨Z_205, _, hO⟩ := hO.freezeN (i := 3) rfl
      obtain ⟨hs_206, h⟩ := h
      refine hd_h (h_call Try.call37 (evs_cons rfl (evs_cons rfl (evs_cons rfl evs_nil))) (reachP_spec (a0 := t.States) (a1 := t.Starts) (a2 := xon) hs_206 hO (Rd.of_fz (i := 7) rfl) (Fz.of (i := 3) rfl))) (by rintro v_207 H_208 ⟨Z_209, _, _, rfl, hO⟩; exact ⟨_, (Own.sel (Ls := [own fBool 4 v_207 (reachL t.States t.Starts xon), box b_204 [.slice none 0 0] 82, box b_176 [.slice none 0 0] 82, ownN fInt 81 3 v_26 back, fz (Rep.sl fInt.rep) v_23 xon, box b_21 [.int .i64 t.States, v_1, v_3, v_5] 28, fz fGArc.rep v_5 t.Arcs, fz fGTip.rep v_3 t.Ends, fz fGTip.rep v_1 t.Starts, inZ Z]) (L := L) [5, 6, 7, 8, 9] rfl hO)⟩) rfl ?_
      rintro v_207 H_208 ⟨Z_209, _, _, rfl, hO⟩
      obtain ⟨Z_211, _, hO⟩ := hO.freezeN (i := 3) rfl
      obtain ⟨hs_212, h⟩ := h
      refine hd_h (h_call Try.call37 (evs_cons rfl (evs_cons rfl (evs_cons rfl evs_nil))) (reachP_spec (a0 := t.States) (a1 := t.Ends) (a2 := back) hs_212 hO (Rd.of_fz (i := 7) rfl) (Fz.of (i := 3) rfl))) (by rintro v_213 H_214 ⟨Z_215, _, _, rfl, hO⟩; exact ⟨_, (Own.sel (Ls := [own fBool 4 v_213 (reachL t.States t.Ends back), own fBool 4 v_207 (reachL t.States t.Starts xon), box b_204 [.slice none 0 0] 82, box b_176 [.slice none 0 0] 82, fz (Rep.sl fInt.rep) v_26 back, fz (Rep.sl fInt.rep) v_23 xon, box b_21 [.int .i64 t.States, v_1, v_3, v_5] 28, fz fGArc.rep v_5 t.Arcs, fz fGTip.rep v_3 t.Ends, fz fGTip.rep v_1 t.Starts, inZ Z]) (L := L) [6, 7, 8, 9, 10] rfl hO)⟩) rfl ?_
      rintro v_213 H_214 ⟨Z_215, _, _, rfl, hO⟩
      refine hd_s (o_store1 hO 2 rfl Try.sizeOf82 rfl rfl rfl (Sl.one (hO.osl 1 rfl))) (by rintro _ H_217 hO; exact ⟨_, (Own.sel (Ls := [own fBool 4 v_213 (reachL t.States t.Ends back), own fBool 4 v_207 (reachL t.States t.Starts xon), box b_204 [v_207] 82, box b_176 [.slice none 0 0] 82, fz (Rep.sl fInt.rep) v_26 back, fz (Rep.sl fInt.rep) v_23 xon, box b_21 [.int .i64 t.States, v_1, v_3, v_5] 28, fz fGArc.rep v_5 t.Arcs, fz fGTip.rep v_3 t.Ends, fz fGTip.rep v_1 t.Starts, inZ Z]) (L := L) [6, 7, 8, 9, 10] rfl hO)⟩) ?_
      rintro _ H_217 hO
      refine hd_nil (hd_s (o_store1 hO 3 rfl Try.sizeOf82 rfl rfl rfl (Sl.one (hO.osl 0 rfl))) (fun _ _ _ => trivial) ?_)
      rintro _ H_218 hO
      replace hO : Own H_218 Z_215 (own fBool 4 v_213 (reachL t.States t.Ends back) :: own fBool 4 v_207 (reachL t.States t.Starts xon) :: box b_204 [v_207] 82 :: box b_176 [v_213] 82 :: fz (Rep.sl fInt.rep) v_26 back :: fz (Rep.sl fInt.rep) v_23 xon :: box b_21 [.int .i64 t.States, v_1, v_3, v_5] 28 :: fz fGArc.rep v_5 t.Arcs :: fz fGTip.rep v_3 t.Ends :: fz fGTip.rep v_1 t.Starts :: inZ Z :: L) := hO
      refine hd_nil ?_
      exact ⟨rfl, v_207, v_213, b_204, b_176, _, (a_c 1 rfl (a_c 7 rfl (a_c 8 rfl a_n))), (Own.sel (Ls := [own fBool 4 v_213 (reachL t.States t.Ends back), own fBool 4 v_207 (reachL t.States t.Starts xon), box b_204 [v_207] 82, box b_176 [v_213] 82, fz (Rep.sl fInt.rep) v_26 back, fz (Rep.sl fInt.rep) v_23 xon, box b_21 [.int .i64 t.States, v_1, v_3, v_5] 28, fz fGArc.rep v_5 t.Arcs, fz fGTip.rep v_3 t.Ends, fz fGTip.rep v_1 t.Starts, inZ Z]) (L := L) [3, 2, 0, 1, 4, 5, 6, 7, 8, 9, 10] rfl hO)⟩
   ·rintro _ H_219 ⟨v_65, v_71, b_76, b_78, Z_220, hai, hO⟩
    obtain ⟨hs_64, h⟩ := h
    obtain ⟨hs_70, h⟩ := h
    refine thenQ_n (hw_sub _ hai (hw_seq (hw_region (hl_v (v_makeFunc (us := []) (vs := [_, _, _]) rfl rfl) rfl (hl_v (v_assign rfl) rfl (hl_nil (thenQ_n (hw_ret ?_))))))))
    obtain ⟨Z_221, _, hO⟩ := hO.freeze (i := 3) rfl
    obtain ⟨Z_222, _, hO⟩ := hO.freeze (i := 2) rfl
    refine ret_i _ (ra_t rfl ra_nil) ?_
    exact ⟨_, (t, (reachL t.States t.Starts xon), (reachL t.States t.Ends back)), v_1, v_3, v_5, v_65, v_71, b_21, b_76, b_78, (hO.inz 10 rfl), h, rfl, (Own.sel (Ls := [box b_78 [v_71] 82, box b_76 [v_65] 82, fz fBool.rep v_71 (reachL t.States t.Ends back), fz fBool.rep v_65 (reachL t.States t.Starts xon), fz (Rep.sl fInt.rep) v_26 back, fz (Rep.sl fInt.rep) v_23 xon, box b_21 [.int .i64 t.States, v_1, v_3, v_5] 28, fz fGArc.rep v_5 t.Arcs, fz fGTip.rep v_3 t.Ends, fz fGTip.rep v_1 t.Starts, inZ Z]) (L := L) [6, 1, 0, 9, 8, 7, 3, 2] rfl hO)⟩
theorem usefulP_spec {a0 : GFst} {v_1 : Value} {v_3 : Value} {v_5 : Value} {L : List As} (hp : fRight a0 = true) {H : Heap} {Z : Nat → Prop} (hO : Own H Z (L)) (hf_2 : Fz fGTip.rep L v_1 a0.Starts) (hf_4 : Fz fGTip.rep L v_3 a0.Ends) (hf_6 : Fz fGArc.rep L v_5 a0.Arcs) : HC Try.prog 23 [.agg [.int .i64 a0.States, v_1, v_3, v_5].toArray] H (fun v H' => ∃ (Z' : Nat → Prop) (v_8 : Value) (v_10 : Value) (v_12 : Value) (v_15 : Value) (v_18 : Value) (b_7 : Nat) (b_14 : Nat) (b_17 : Nat), (∀ b, Z b → Z' b) ∧ v = .func (.func 38) #[] #[ptr b_7 0, ptr b_14 0, ptr b_17 0] ∧ Own H' Z' (box b_7 [.int .i64 ((a0, reachL a0.States a0.Starts (onL a0.States a0.Arcs), reachL a0.States a0.Ends (backL a0.States a0.Arcs))).1.States, v_8, v_10, v_12] 28 :: box b_14 [v_15] 82 :: box b_17 [v_18] 82 :: fz fGTip.rep v_8 ((a0, reachL a0.States a0.Starts (onL a0.States a0.Arcs), reachL a0.States a0.Ends (backL a0.States a0.Arcs))).1.Starts :: fz fGTip.rep v_10 ((a0, reachL a0.States a0.Starts (onL a0.States a0.Arcs), reachL a0.States a0.Ends (backL a0.States a0.Arcs))).1.Ends :: fz fGArc.rep v_12 ((a0, reachL a0.States a0.Starts (onL a0.States a0.Arcs), reachL a0.States a0.Ends (backL a0.States a0.Arcs))).1.Arcs :: fz fBool.rep v_15 ((a0, reachL a0.States a0.Starts (onL a0.States a0.Arcs), reachL a0.States a0.Ends (backL a0.States a0.Arcs))).2.1 :: fz fBool.rep v_18 ((a0, reachL a0.States a0.Starts (onL a0.States a0.Arcs), reachL a0.States a0.Ends (backL a0.States a0.Arcs))).2.2 :: L)) := by
  refine (usefulP_ok (t := a0) (@usefulP_wp a0 hp) hO hf_2 hf_4 hf_6).mono ?_
  rintro v H' ⟨Z', r0, v_8, v_10, v_12, v_15, v_18, b_7, b_14, b_17, hz, hq, hv, hO'⟩
  obtain rfl := hq
  exact ⟨Z', v_8, v_10, v_12, v_15, v_18, b_7, b_14, b_17, hz, hv, hO'⟩

theorem trim1_ok {l : List GTip} {c0 : List (Int × Int)} {v_1 : Value} {b_3 : Nat} {b_4 : Nat} {Q : (List GTip) → Prop} {H : Heap} {Z : Nat → Prop} {L : List As} (h : wp_trim1 l c0 Q) (hO : Own H Z (L)) (hr_2 : Rd fGTip.rep L v_1 l) (ht_5 : Tb L (Value.int .i64) (Value.int .i64) b_4 c0) (hb_6 : Bx L b_3 [.map (some b_4)] 59) : HC Try.prog 24 [v_1, ptr b_3 0] H (fun v H' => ∃ (Z' : Nat → Prop) (r0 : List GTip) (v_7 : Value), (∀ b, Z b → Z' b) ∧ Q r0 ∧ v = v_7 ∧ Own H' Z' (own fGTip 45 v_7 r0 :: L)) := by
 replace hO := hO.inZ
 unfold wp_trim1 at h
 refine hc_of_hw (N := 32) (rs := [(.tmp 3)]) Try.func24 rfl rfl rfl rfl (hw_seq (hw_region (hl_v (v_assign rfl) rfl (hl_nil (thenQ_n (hw_seq (hw_region (hl_v (v_assign rfl) rfl (hl_nil (thenQ_n (hw_seq (hw_seq (hw_region (hl_v (v_move rfl) rfl ?_))))))))))))))
 have hln_8 := Sl.cap (Rd.sl hr_2 (Own.tails [_] hO))
 refine hl_v (v_lenL rfl Try.underlying25 rfl (Rd.sl hr_2 (Own.tails [_] hO))) rfl (hl_v (v_move rfl) rfl (hl_nil (thenQ_n (hw_block ?_))))
 obtain ⟨I_10, h, hI_12⟩ := h
 replace hO := hO.nil fGTip 45
 refine hw_lp (fun n' g' H' => ∃ (kept : List GTip) (k : Nat) (v_9 : Value) (Z' : Nat → Prop), n' = l.length - k ∧ g' = [(1, ptr b_3 0), (4, v_9), (9, v_1), (10, .int .i64 (l.length : Int)), (11, .int .i64 (k : Int))] ∧ I_10 kept k ∧ k ≤ l.length ∧ Own H' Z' (own fGTip 45 v_9 kept :: inZ Z :: L)) _ _ (a_c 1 rfl (a_c 4 rfl (a_c 9 rfl (a_c 10 rfl (a_c 11 rfl a_n))))) ⟨[], 0, .slice none 0 0, _, rfl, rfl, h, by omega, hO⟩ ?_
 rintro _ _ H_13 ⟨kept, k, v_9, Z_14, rfl, rfl, h, hb_15, hO⟩
 replace h := hI_12 kept k h hb_15
 refine hw_seq (hw_region (hl_v (v_lss rfl rfl) rfl (hl_nil (thenQ_n (hw_seq (hw_cond rfl (fun hc_16 => ?_) (fun hc_16 => ?_)))))))
 ·replace h := ite_t h hc_16
  refine hw_skip (thenQ_n (hw_seq (hw_block (hw_seq (hw_region (hl_v (v_ixL Try.underlying25 Try.sizeOf45 rfl rfl (Rd.sl hr_2 (Own.tails [_, _] hO)) (by exact ⟨Int.natCast_nonneg _, of_decide_eq_true hc_16⟩)) rfl (hl_v (v_loadFl Try.isAgg45 Try.sizeOf45 rfl (Rd.sl hr_2 (Own.tails [_, _] hO)) rfl (by exact ⟨Int.natCast_nonneg _, of_decide_eq_true hc_16⟩)) rfl (hl_h (o_alloc (cs := (fGTip.enc (⟨(0 : Int), ([] : List UInt8)⟩ : GTip))) hO Try.zeroValue45 rfl) rfl ?_))))))))
  rintro _ H_17 ⟨b_18, rfl, hO⟩
  refine hl_s (o_storeA (us := (fGTip.enc (l.getD k default))) hO 0 rfl Try.sizeOf45 rfl rfl rfl rfl (by intro u hu; exact (fGTip).one _ u hu)) ?_
  rintro _ H_19 hO
  refine hl_nil (thenQ_n (hw_seq (hw_region (hl_v (v_load1 Try.isAgg59 rfl (Blk.cell (hb_6 _ _ (Own.tails [_, _, _] hO)) rfl)) rfl (hl_v (v_fieldA Try.underlying45 rfl Try.sizeOf3 rfl) rfl (hl_v (v_load1 Try.isAgg3 rfl (Blk.cell (hO.box 0 rfl) rfl)) rfl (hl_v (v_lookup2 (d := (0 : Int)) (keyInt Try.underlying3) rfl Try.underlying59 Try.zeroValue3 rfl rfl (ht_5 _ _ (Own.tails [_, _, _] hO))) rfl (hl_v (v_move rfl) rfl (hl_v (v_extract rfl rfl) rfl (hl_v (v_extract rfl rfl) rfl (hl_v (v_assign rfl) rfl (hl_v (v_assign rfl) rfl (hl_nil (thenQ_n (hw_sub _ (a_c 1 rfl (a_c 4 rfl (a_c 6 rfl (a_c 7 rfl (a_c 8 rfl (a_c 9 rfl (a_c 10 rfl (a_c 11 rfl a_n)))))))) (hw_seq (hw_region (hl_v (v_move rfl) rfl (hl_nil (thenQ_n (hw_cond rfl (fun hc_20 => ?_) (fun hc_20 => ?_))))))))))))))))))))))
  ·replace h := ite_t h hc_20
   refine hw_region (hl_v (v_move rfl) rfl (hl_v (v_move rfl) rfl (hl_v (v_fieldA Try.underlying45 rfl Try.sizeOf9 rfl) rfl (hl_v (v_load1 Try.isAgg9 rfl (Blk.cell (hO.box 0 rfl) rfl)) rfl (hl_v (v_buildF (cs := (fGTip.enc (⟨((aget c0 ((l.getD k default).State)).getD (0 : Int)), (l.getD k default).Out⟩ : GTip))) (xs := [.tmp 24, .tmp 26]) (is := [0, 1]) rfl (evs_cons rfl (evs_cons rfl evs_nil)) (fun w => by show _ = _; kernel_rfl)) rfl (hl_h (o_lit (g := fGTip) (l := [(⟨((aget c0 ((l.getD k default).State)).getD (0 : Int)), (l.getD k default).Out⟩ : GTip)]) (xs := [.tmp 27]) hO Try.underlying25 Try.sizeOf45 Try.zeroValue45 rfl (evs_cons rfl evs_nil) rfl rfl rfl rfl rfl) rfl ?_))))))
   rintro v_22 H_21 hO
   obtain ⟨hs_25, h⟩ := h
   refine hl_h (o_append (l2 := [(⟨((aget c0 ((l.getD k default).State)).getD (0 : Int)), (l.getD k default).Out⟩ : GTip)]) hO 2 rfl rfl Try.underlying25 Try.type45 rfl rfl rfl rfl rfl rfl rfl (hO.osl 0 rfl) hs_25 (le63 hs_25 rfl)) rfl ?_
   rintro v_24 H_23 hO
   refine hl_v (v_assign rfl) rfl (hl_nil (blockQ_n (thenQ_n (hw_region (hl_v (v_add rfl rfl (by have hq := of_decide_eq_true hc_16; have hm := hln_8; constructor <;> omega)) rfl (hl_v (v_move rfl) rfl (hl_nil (thenQ_n ?_))))))))
   exact ⟨_, _, (a_c 1 rfl (a_c 4 rfl (a_c 9 rfl (a_c 10 rfl (a_c 11 rfl a_n))))), ⟨(kept ++ [(⟨((aget c0 ((l.getD k default).State)).getD (0 : Int)), (l.getD k default).Out⟩ : GTip)]), k + 1, v_24, _, rfl, rfl, h, (by have hq := of_decide_eq_true hc_16; omega), (Own.sel (Ls := [own fGTip 45 v_22 [(⟨((aget c0 ((l.getD k default).State)).getD (0 : Int)), (l.getD k default).Out⟩ : GTip)], box b_18 (fGTip.enc (l.getD k default)) 45, own fGTip 45 v_24 (kept ++ [(⟨((aget c0 ((l.getD k default).State)).getD (0 : Int)), (l.getD k default).Out⟩ : GTip)]), inZ Z]) (L := L) [2, 3] rfl hO)⟩, (by have hq := of_decide_eq_true hc_16; omega)⟩
  ·replace h := ite_f h hc_20
   refine hw_skip (blockQ_n (thenQ_n (hw_region (hl_v (v_add rfl rfl (by have hq := of_decide_eq_true hc_16; have hm := hln_8; constructor <;> omega)) rfl (hl_v (v_move rfl) rfl (hl_nil (thenQ_n ?_)))))))
   exact ⟨_, _, (a_c 1 rfl (a_c 4 rfl (a_c 9 rfl (a_c 10 rfl (a_c 11 rfl a_n))))), ⟨kept, k + 1, v_9, _, rfl, rfl, h, (by have hq := of_decide_eq_true hc_16; omega), (Own.sel (Ls := [box b_18 (fGTip.enc (l.getD k default)) 45, own fGTip 45 v_9 kept, inZ Z]) (L := L) [1, 2] rfl hO)⟩, (by have hq := of_decide_eq_true hc_16; omega)⟩
 ·replace h := ite_f h hc_16
  refine hw_exit (thenQ_e (thenQ_e (blockQ_hit (thenQ_n (hw_seq (hw_region (hl_v (v_move rfl) rfl (hl_v (v_assign rfl) rfl (hl_nil (thenQ_n (hw_ret (ret_i _ (ra_t rfl ra_nil) ?_))))))))))))
  exact ⟨_, kept, v_9, (hO.inz 1 rfl), h, rfl, (Own.sel (Ls := [own fGTip 45 v_9 kept, inZ Z]) (L := L) [0] rfl hO)⟩
theorem trim1_spec {a0 : List GTip} {a1 : List (Int × Int)} {v_1 : Value} {b_3 : Nat} {b_4 : Nat} {L : List As} (hp : a0.length ≤ 1000000) {H : Heap} {Z : Nat → Prop} (hO : Own H Z (L)) (hr_2 : Rd fGTip.rep L v_1 a0) (ht_5 : Tb L (Value.int .i64) (Value.int .i64) b_4 a1) (hb_6 : Bx L b_3 [.map (some b_4)] 59) : HC Try.prog 24 [v_1, ptr b_3 0] H (fun v H' => ∃ (Z' : Nat → Prop) (v_7 : Value), (∀ b, Z b → Z' b) ∧ v = v_7 ∧ Own H' Z' (own fGTip 45 v_7 ((tipsL a1 a0)) :: L)) := by
  refine (trim1_ok (l := a0) (c0 := a1) (@trim1_wp a0 a1 hp) hO hr_2 ht_5 hb_6).mono ?_
  rintro v H' ⟨Z', r0, v_7, hz, hq, hv, hO'⟩
  obtain rfl := hq
  exact ⟨Z', v_7, hz, hv, hO'⟩

theorem trimP_ok {t : GFst} {v_1 : Value} {v_3 : Value} {v_5 : Value} {Q : GFst → Int → Prop} {H : Heap} {Z : Nat → Prop} {L : List As} (h : wp_trimP t Q) (hO : Own H Z (L)) (hf_2 : Fz fGTip.rep L v_1 t.Starts) (hf_4 : Fz fGTip.rep L v_3 t.Ends) (hf_6 : Fz fGArc.rep L v_5 t.Arcs) : HC Try.prog 11 [.agg [.int .i64 t.States, v_1, v_3, v_5].toArray] H (fun v H' => ∃ (Z' : Nat → Prop) (r0 : GFst) (r1 : Int) (v_7 : Value) (v_8 : Value) (v_9 : Value), (∀ b, Z b → Z' b) ∧ Q r0 r1 ∧ v = .tuple #[.agg [.int .i64 r0.States, v_7, v_8, v_9].toArray, .int .i64 r1] ∧ Own H' Z' (own fGTip 45 v_7 r0.Starts :: own fGTip 45 v_8 r0.Ends :: own fGArc 55 v_9 r0.Arcs :: L)) := by
 replace hO := hO.inZ
 replace hO := hO.szI (Nat.le_refl H.size)
 replace hO := Fz.items [_, _] hf_2 hO
 replace hO := Fz.items [_, _, _] hf_4 hO
 replace hO := Fz.items [_, _, _, _] hf_6 hO
 unfold wp_trimP at h
 refine hc_of_hw_m (M := 83) (rs := [(.cell 2 28), (.tmp 3)]) Try.func11 rfl rfl rfl rfl (hw_seq (hw_region (hl_h (o_box (cs := [.int .i64 t.States, v_1, v_3, v_5]) hO rfl rfl) rfl ?_)))
 rintro _ H_10 ⟨b_11, rfl, hO⟩
 refine hl_h (o_alloc (cs := [.int .i64 (0 : Int), .slice none 0 0, .slice none 0 0, .slice none 0 0]) hO Try.zeroValue28 rfl) rfl ?_
 rintro _ H_12 ⟨b_13, rfl, hO⟩
 refine hl_v (v_assign rfl) rfl (hl_nil (thenQ_n (hw_seq (hw_seq (hw_region (hl_v (v_loadA Try.isAgg28 Try.sizeOf28 rfl (Blk.at0 (hO.box 1 rfl)) rfl) rfl (hl_h (h_call Try.call22 (evs_cons rfl evs_nil) (fCheckP_spec (a0 := t) hO (Fz.of (i := 4) rfl) (Fz.of (i := 3) rfl) (Fz.of (i := 2) rfl))) rfl ?_)))))))
 rintro _ H_14 ⟨Z_15, _, rfl, hO⟩
 refine hl_v (v_assign rfl) rfl (hl_nil (thenQ_n (hw_seq (hw_region (hl_v (v_move rfl) rfl (hl_v (v_neq rfl rfl) rfl (hl_nil (thenQ_n (hw_cond rfl (fun hc_17 => ?_) (fun hc_17 => ?_))))))))))
 ·replace h := ite_t h hc_17
  refine hw_seq (hw_region (hl_v (v_buildF (cs := [.int .i64 (0 : Int), .slice none 0 0, .slice none 0 0, .slice none 0 0]) (xs := []) (is := []) rfl evs_nil (fun w => by show _ = _; kernel_rfl)) rfl (hl_v (v_move rfl) rfl (hl_s (o_storeA (us := [.int .i64 (0 : Int), .slice none 0 0, .slice none 0 0, .slice none 0 0]) hO 0 rfl Try.sizeOf28 rfl rfl rfl rfl (by simp only [List.forall_mem_cons]; exact ⟨rfl, rfl, rfl, rfl, by simp⟩)) ?_))))
  rintro _ H_18 hO
  refine hl_v (v_assign rfl) rfl (hl_nil (thenQ_n (hw_ret (thenQ_r ?_))))
  replace hO := hO.nil fGTip 45
  replace hO := hO.nil fGTip 45
  replace hO := hO.nil fGArc 55
  refine retm_i (fun G' hsh => ?_)
  replace hO := hO.shutB hsh
  refine ⟨_, (ra_c rfl (fun w hw => run_loadVar_at (cs := [.int .i64 (0 : Int), .slice none 0 0, .slice none 0 0, .slice none 0 0]) Try.isAgg28 Try.sizeOf28 (Blk.at0 (hO.box 3 rfl)) rfl w hw) (ra_t rfl ra_nil)), ?_⟩
  exact ⟨_, (⟨(0 : Int), [], [], []⟩ : GFst), fCheck t, .slice none 0 0, .slice none 0 0, .slice none 0 0, (hO.inz 9 rfl), h, rfl, (Own.sel (Ls := [own fGArc 55 (.slice none 0 0) [], own fGTip 45 (.slice none 0 0) [], own fGTip 45 (.slice none 0 0) [], box b_13 [.int .i64 (0 : Int), .slice none 0 0, .slice none 0 0, .slice none 0 0] 28, box b_11 [.int .i64 t.States, v_1, v_3, v_5] 28, fz fGArc.rep v_5 t.Arcs, fz fGTip.rep v_3 t.Ends, fz fGTip.rep v_1 t.Starts, szA H.size, inZ Z]) (L := L) [2, 1, 0] rfl hO)⟩
 ·replace h := ite_f h hc_17
  refine hw_skip (thenQ_n (hw_seq (hw_region (hl_h (o_makeMap (ke := (Value.int .i64)) (ve := (Value.int .i64)) hO) rfl ?_))))
  rintro _ H_19 ⟨b_20, rfl, hO⟩
  refine hl_h (o_alloc (cs := [.map none]) hO Try.zeroValue59 rfl) rfl ?_
  rintro _ H_21 ⟨b_22, rfl, hO⟩
  refine hl_s (o_store1 hO 0 rfl Try.sizeOf59 rfl rfl rfl rfl) ?_
  rintro _ H_23 hO
  refine hl_nil (thenQ_n (hw_seq (hw_seq (hw_region (hl_v (v_loadA Try.isAgg28 Try.sizeOf28 rfl (Blk.at0 (hO.box 3 rfl)) rfl) rfl ?_)))))
  obtain ⟨hs_24, h⟩ := h
  refine hl_h (h_call Try.call23 (evs_cons rfl evs_nil) (usefulP_spec (a0 := t) hs_24 hO (Fz.of (i := 6) rfl) (Fz.of (i := 5) rfl) (Fz.of (i := 4) rfl))) rfl ?_
  rintro _ H_38 ⟨Z_39, v_26, v_28, v_30, v_33, v_36, b_25, b_32, b_35, _, rfl, hO⟩
  refine hl_nil (thenQ_n (hw_block ?_))
  replace hO := Sl.item (hO.fsl 3 rfl) hO
  replace hO := Sl.item (hO.fsl 5 rfl) hO
  replace hO := Sl.item (hO.fsl 7 rfl) hO
  replace hO := Sl.item (hO.fsl 9 rfl) hO
  replace hO := Sl.item (hO.fsl 11 rfl) hO
  obtain ⟨hs_41, h⟩ := h
  obtain ⟨I_42, h, hI_43⟩ := h
  refine hw_rangeO (L0 := fz fGTip.rep v_26 (((t, reachL t.States t.Starts (onL t.States t.Arcs), reachL t.States t.Ends (backL t.States t.Arcs)).1).Starts) :: fz fGTip.rep v_28 (((t, reachL t.States t.Starts (onL t.States t.Arcs), reachL t.States t.Ends (backL t.States t.Arcs)).1).Ends) :: fz fGArc.rep v_30 (((t, reachL t.States t.Starts (onL t.States t.Arcs), reachL t.States t.Ends (backL t.States t.Arcs)).1).Arcs) :: box b_25 [.int .i64 (((t, reachL t.States t.Starts (onL t.States t.Arcs), reachL t.States t.Ends (backL t.States t.Arcs)).1).States), v_26, v_28, v_30] 28 :: fz fBool.rep v_33 ((t, reachL t.States t.Starts (onL t.States t.Arcs), reachL t.States t.Ends (backL t.States t.Arcs)).2.1) :: box b_32 [v_33] 82 :: fz fBool.rep v_36 ((t, reachL t.States t.Starts (onL t.States t.Arcs), reachL t.States t.Ends (backL t.States t.Arcs)).2.2) :: box b_35 [v_36] 82 :: L) (caps := [ptr b_25 0, ptr b_32 0, ptr b_35 0]) (xs := (usefulL ((t, reachL t.States t.Starts (onL t.States t.Arcs), reachL t.States t.Ends (backL t.States t.Arcs)).1).States ((t, reachL t.States t.Starts (onL t.States t.Arcs), reachL t.States t.Ends (backL t.States t.Arcs)).2.1) ((t, reachL t.States t.Starts (onL t.States t.Arcs), reachL t.States t.Ends (backL t.States t.Arcs)).2.2))) (enc := (fun x => [.int .i64 x])) (fun k => exs (fun Ls => ∃ (number : List (Int × Int)) , I_42 number k ∧ Ls = [box b_22 [.map (some b_20)] 59, tbl (Value.int .i64) (Value.int .i64) b_20 number, box b_13 [.int .i64 (0 : Int), .slice none 0 0, .slice none 0 0, .slice none 0 0] 28, box b_11 [.int .i64 t.States, v_1, v_3, v_5] 28, fz fGArc.rep v_5 t.Arcs, fz fGTip.rep v_3 t.Ends, fz fGTip.rep v_1 t.Starts, szA H.size, inZ Z])) (fun _ => ffA) rfl Try.call38 (useful1_spec (a0 := ((t, reachL t.States t.Starts (onL t.States t.Arcs), reachL t.States t.Ends (backL t.States t.Arcs)).1)) (a1 := (t, reachL t.States t.Starts (onL t.States t.Arcs), reachL t.States t.Ends (backL t.States t.Arcs)).2.1) (a2 := (t, reachL t.States t.Starts (onL t.States t.Arcs), reachL t.States t.Ends (backL t.States t.Arcs)).2.2) (L := fz fGTip.rep v_26 (((t, reachL t.States t.Starts (onL t.States t.Arcs), reachL t.States t.Ends (backL t.States t.Arcs)).1).Starts) :: fz fGTip.rep v_28 (((t, reachL t.States t.Starts (onL t.States t.Arcs), reachL t.States t.Ends (backL t.States t.Arcs)).1).Ends) :: fz fGArc.rep v_30 (((t, reachL t.States t.Starts (onL t.States t.Arcs), reachL t.States t.Ends (backL t.States t.Arcs)).1).Arcs) :: box b_25 [.int .i64 (((t, reachL t.States t.Starts (onL t.States t.Arcs), reachL t.States t.Ends (backL t.States t.Arcs)).1).States), v_26, v_28, v_30] 28 :: fz fBool.rep v_33 ((t, reachL t.States t.Starts (onL t.States t.Arcs), reachL t.States t.Ends (backL t.States t.Arcs)).2.1) :: box b_32 [v_33] 82 :: fz fBool.rep v_36 ((t, reachL t.States t.Starts (onL t.States t.Arcs), reachL t.States t.Ends (backL t.States t.Arcs)).2.2) :: box b_35 [v_36] 82 :: L) hs_41 (Fz.of (i := 0) rfl) (Fz.of (i := 1) rfl) (Fz.of (i := 2) rfl) (Bx.of (i := 3) rfl) (Fz.of (i := 4) rfl) (Bx.of (i := 5) rfl) (Fz.of (i := 6) rfl) (Bx.of (i := 7) rfl)) rfl (fun _ => rfl) (hO.szO 20 rfl) (Own.cls (Ls := [box b_22 [.map (some b_20)] 59, tbl (Value.int .i64) (Value.int .i64) b_20 [], box b_13 [.int .i64 (0 : Int), .slice none 0 0, .slice none 0 0, .slice none 0 0] 28, box b_11 [.int .i64 t.States, v_1, v_3, v_5] 28, fz fGArc.rep v_5 t.Arcs, fz fGTip.rep v_3 t.Ends, fz fGTip.rep v_1 t.Starts, szA H.size, inZ Z]) (Own.sel (Ls := [fz fBool.rep v_36 ((t, reachL t.States t.Starts (onL t.States t.Arcs), reachL t.States t.Ends (backL t.States t.Arcs)).2.2), fz fBool.rep v_33 ((t, reachL t.States t.Starts (onL t.States t.Arcs), reachL t.States t.Ends (backL t.States t.Arcs)).2.1), fz fGArc.rep v_30 (((t, reachL t.States t.Starts (onL t.States t.Arcs), reachL t.States t.Ends (backL t.States t.Arcs)).1).Arcs), fz fGTip.rep v_28 (((t, reachL t.States t.Starts (onL t.States t.Arcs), reachL t.States t.Ends (backL t.States t.Arcs)).1).Ends), fz fGTip.rep v_26 (((t, reachL t.States t.Starts (onL t.States t.Arcs), reachL t.States t.Ends (backL t.States t.Arcs)).1).Starts), box b_25 [.int .i64 (((t, reachL t.States t.Starts (onL t.States t.Arcs), reachL t.States t.Ends (backL t.States t.Arcs)).1).States), v_26, v_28, v_30] 28, box b_32 [v_33] 82, box b_35 [v_36] 82, fz fGTip.rep v_26 (((t, reachL t.States t.Starts (onL t.States t.Arcs), reachL t.States t.Ends (backL t.States t.Arcs)).1).Starts), fz fGTip.rep v_28 (((t, reachL t.States t.Starts (onL t.States t.Arcs), reachL t.States t.Ends (backL t.States t.Arcs)).1).Ends), fz fGArc.rep v_30 (((t, reachL t.States t.Starts (onL t.States t.Arcs), reachL t.States t.Ends (backL t.States t.Arcs)).1).Arcs), fz fBool.rep v_33 ((t, reachL t.States t.Starts (onL t.States t.Arcs), reachL t.States t.Ends (backL t.States t.Arcs)).2.1), fz fBool.rep v_36 ((t, reachL t.States t.Starts (onL t.States t.Arcs), reachL t.States t.Ends (backL t.States t.Arcs)).2.2), box b_22 [.map (some b_20)] 59, tbl (Value.int .i64) (Value.int .i64) b_20 [], box b_13 [.int .i64 (0 : Int), .slice none 0 0, .slice none 0 0, .slice none 0 0] 28, box b_11 [.int .i64 t.States, v_1, v_3, v_5] 28, fz fGArc.rep v_5 t.Arcs, fz fGTip.rep v_3 t.Ends, fz fGTip.rep v_1 t.Starts, szA H.size, inZ Z]) (L := L) [13, 14, 15, 16, 17, 18, 19, 20, 21, 4, 3, 2, 5, 1, 6, 0, 7] rfl hO) ⟨[], h, rfl⟩) ?_ ?_ (fun c Z G hO => hO.never.elim)
  ·rintro k _ hk_46 rfl L tl_47 Z_45 H_44 hO
   obtain ⟨_, ⟨number, hJ, rfl⟩, hO⟩ := hO.opn
   replace hO : Own H_44 Z_45 (box b_22 [.map (some b_20)] 59 :: tbl (Value.int .i64) (Value.int .i64) b_20 number :: box b_13 [.int .i64 (0 : Int), .slice none 0 0, .slice none 0 0, .slice none 0 0] 28 :: box b_11 [.int .i64 t.States, v_1, v_3, v_5] 28 :: fz fGArc.rep v_5 t.Arcs :: fz fGTip.rep v_3 t.Ends :: fz fGTip.rep v_1 t.Starts :: szA H.size :: inZ Z :: L) := hO
   replace h := ite_t (hI_43 number k hJ (Nat.le_of_lt hk_46)) (decide_eq_true (Int.ofNat_lt.2 hk_46))
   refine hw_region (hl_v (v_assign rfl) rfl (hl_nil (⟨rfl, _, ⟨_, Own.cls (S := fun Ls => Ls = [box b_22 [.map (some b_20)] 59, tbl (Value.int .i64) (Value.int .i64) b_20 number, box b_13 [.int .i64 (0 : Int), .slice none 0 0, .slice none 0 0, .slice none 0 0] 28, box b_11 [.int .i64 t.States, v_1, v_3, v_5] 28, fz fGArc.rep v_5 t.Arcs, fz fGTip.rep v_3 t.Ends, fz fGTip.rep v_1 t.Starts, szA H.size, inZ Z]) (Ls := [box b_22 [.map (some b_20)] 59, tbl (Value.int .i64) (Value.int .i64) b_20 number, box b_13 [.int .i64 (0 : Int), .slice none 0 0, .slice none 0 0, .slice none 0 0] 28, box b_11 [.int .i64 t.States, v_1, v_3, v_5] 28, fz fGArc.rep v_5 t.Arcs, fz fGTip.rep v_3 t.Ends, fz fGTip.rep v_1 t.Starts, szA H.size, inZ Z]) hO rfl⟩, ?_⟩)))
   rintro L tl_50 Z_49 H_48 hO
   obtain ⟨_, rfl, hO⟩ := hO.opn
   replace hO : Own H_48 Z_49 (box b_22 [.map (some b_20)] 59 :: tbl (Value.int .i64) (Value.int .i64) b_20 number :: box b_13 [.int .i64 (0 : Int), .slice none 0 0, .slice none 0 0, .slice none 0 0] 28 :: box b_11 [.int .i64 t.States, v_1, v_3, v_5] 28 :: fz fGArc.rep v_5 t.Arcs :: fz fGTip.rep v_3 t.Ends :: fz fGTip.rep v_1 t.Starts :: szA H.size :: inZ Z :: L) := hO
   replace hf_2 := hf_2.to (Tl.tails [_, _, _, _, _, _, _, _] tl_50)
   replace hf_4 := hf_4.to (Tl.tails [_, _, _, _, _, _, _, _] tl_50)
   replace hf_6 := hf_6.to (Tl.tails [_, _, _, _, _, _, _, _] tl_50)
   refine hw_block (hw_region (hl_v (v_load1 Try.isAgg59 rfl (Blk.cell (hO.box 0 rfl) rfl)) rfl (hl_v (v_move rfl) rfl (hl_v (v_load1 Try.isAgg59 rfl (Blk.cell (hO.box 0 rfl) rfl)) rfl (hl_v (v_lenM rfl Try.underlying59 rfl (hO.tbl 1 rfl)) rfl (hl_s (o_mapUpdate (k := ((usefulL ((t, reachL t.States t.Starts (onL t.States t.Arcs), reachL t.States t.Ends (backL t.States t.Arcs)).1).States ((t, reachL t.States t.Starts (onL t.States t.Arcs), reachL t.States t.Ends (backL t.States t.Arcs)).2.1) ((t, reachL t.States t.Starts (onL t.States t.Arcs), reachL t.States t.Ends (backL t.States t.Arcs)).2.2)).getD k default)) (v := (number.length : Int)) hO 1 rfl (keyInt Try.underlying3) rfl Try.underlying59 rfl rfl rfl) ?_))))))
   rintro _ H_51 hO
   refine hl_nil (blockQ_n ?_)
   exact ⟨_, Own.cls (Ls := [box b_22 [.map (some b_20)] 59, tbl (Value.int .i64) (Value.int .i64) b_20 (aput number ((usefulL ((t, reachL t.States t.Starts (onL t.States t.Arcs), reachL t.States t.Ends (backL t.States t.Arcs)).1).States ((t, reachL t.States t.Starts (onL t.States t.Arcs), reachL t.States t.Ends (backL t.States t.Arcs)).2.1) ((t, reachL t.States t.Starts (onL t.States t.Arcs), reachL t.States t.Ends (backL t.States t.Arcs)).2.2)).getD k default) (number.length : Int)), box b_13 [.int .i64 (0 : Int), .slice none 0 0, .slice none 0 0, .slice none 0 0] 28, box b_11 [.int .i64 t.States, v_1, v_3, v_5] 28, fz fGArc.rep v_5 t.Arcs, fz fGTip.rep v_3 t.Ends, fz fGTip.rep v_1 t.Starts, szA H.size, inZ Z]) hO ⟨(aput number ((usefulL ((t, reachL t.States t.Starts (onL t.States t.Arcs), reachL t.States t.Ends (backL t.States t.Arcs)).1).States ((t, reachL t.States t.Starts (onL t.States t.Arcs), reachL t.States t.Ends (backL t.States t.Arcs)).2.1) ((t, reachL t.States t.Starts (onL t.States t.Arcs), reachL t.States t.Ends (backL t.States t.Arcs)).2.2)).getD k default) (number.length : Int)), h, rfl⟩⟩
  ·rintro Z_53 H_52 hO
   obtain ⟨_, ⟨number, hJ, rfl⟩, hO⟩ := hO.opn
   replace hO : Own H_52 Z_53 (box b_22 [.map (some b_20)] 59 :: tbl (Value.int .i64) (Value.int .i64) b_20 number :: box b_13 [.int .i64 (0 : Int), .slice none 0 0, .slice none 0 0, .slice none 0 0] 28 :: box b_11 [.int .i64 t.States, v_1, v_3, v_5] 28 :: fz fGArc.rep v_5 t.Arcs :: fz fGTip.rep v_3 t.Ends :: fz fGTip.rep v_1 t.Starts :: szA H.size :: inZ Z :: L) := Own.sel (Ls := [box b_22 [.map (some b_20)] 59, tbl (Value.int .i64) (Value.int .i64) b_20 number, box b_13 [.int .i64 (0 : Int), .slice none 0 0, .slice none 0 0, .slice none 0 0] 28, box b_11 [.int .i64 t.States, v_1, v_3, v_5] 28, fz fGArc.rep v_5 t.Arcs, fz fGTip.rep v_3 t.Ends, fz fGTip.rep v_1 t.Starts, szA H.size, inZ Z, fz fGTip.rep v_26 (((t, reachL t.States t.Starts (onL t.States t.Arcs), reachL t.States t.Ends (backL t.States t.Arcs)).1).Starts), fz fGTip.rep v_28 (((t, reachL t.States t.Starts (onL t.States t.Arcs), reachL t.States t.Ends (backL t.States t.Arcs)).1).Ends), fz fGArc.rep v_30 (((t, reachL t.States t.Starts (onL t.States t.Arcs), reachL t.States t.Ends (backL t.States t.Arcs)).1).Arcs), box b_25 [.int .i64 (((t, reachL t.States t.Starts (onL t.States t.Arcs), reachL t.States t.Ends (backL t.States t.Arcs)).1).States), v_26, v_28, v_30] 28, fz fBool.rep v_33 ((t, reachL t.States t.Starts (onL t.States t.Arcs), reachL t.States t.Ends (backL t.States t.Arcs)).2.1), box b_32 [v_33] 82, fz fBool.rep v_36 ((t, reachL t.States t.Starts (onL t.States t.Arcs), reachL t.States t.Ends (backL t.States t.Arcs)).2.2), box b_35 [v_36] 82]) (L := L) [0, 1, 2, 3, 4, 5, 6, 7, 8] rfl hO
   replace h := ite_f (hI_43 number _ hJ (Nat.le_refl _)) (decide_eq_false (Int.lt_irrefl _))
   refine blockQ_n (thenQ_n (hw_seq (hw_region (hl_v (v_load1 Try.isAgg59 rfl (Blk.cell (hO.box 0 rfl) rfl)) rfl (hl_v (v_lenM rfl Try.underlying59 rfl (hO.tbl 1 rfl)) rfl (hl_v (v_buildF (cs := [.int .i64 (number.length : Int), .slice none 0 0, .slice none 0 0, .slice none 0 0]) (xs := [.tmp 30]) (is := [0]) rfl (evs_cons rfl evs_nil) (fun w => by show _ = _; kernel_rfl)) rfl (hl_h (o_alloc (cs := [.int .i64 (0 : Int), .slice none 0 0, .slice none 0 0, .slice none 0 0]) hO Try.zeroValue28 rfl) rfl ?_)))))))
   rintro _ H_54 ⟨b_55, rfl, hO⟩
   refine hl_s (o_storeA (us := [.int .i64 (number.length : Int), .slice none 0 0, .slice none 0 0, .slice none 0 0]) hO 0 rfl Try.sizeOf28 rfl rfl rfl rfl (by simp only [List.forall_mem_cons]; exact ⟨rfl, rfl, rfl, rfl, by simp⟩)) ?_
   rintro _ H_56 hO
   refine hl_nil (thenQ_n (hw_sub _ (a_c 1 rfl (a_c 2 rfl (a_c 5 rfl (a_c 7 rfl a_n)))) (hw_seq (hw_region (hl_v (v_makeFunc (us := []) (vs := [_]) rfl rfl) rfl (hl_v (v_assign rfl) rfl (hl_nil (thenQ_n (hw_seq (hw_held2 10 (fun H' => ∃ Z' : Nat → Prop, Own H' Z' (box b_22 [.map (some b_20)] 59 :: tbl (Value.int .i64) (Value.int .i64) b_20 number :: box b_13 [.int .i64 (0 : Int), .slice none 0 0, .slice none 0 0, .slice none 0 0] 28 :: box b_11 [.int .i64 t.States, v_1, v_3, v_5] 28 :: fz fGArc.rep v_5 t.Arcs :: fz fGTip.rep v_3 t.Ends :: fz fGTip.rep v_1 t.Starts :: szA H.size :: inZ Z :: L)) (.step 0 false (.step 1 false (.step 2 false (.step 4 false (.step 5 false (.step 6 false (.step 3 true (.step 8 false (.step 7 true (.step 9 true .done)))))))))) (.step 10 true (.step 11 true .done)) Try.mixed (by kernel_rfl) ⟨_, (Own.sel (Ls := [box b_55 [.int .i64 (number.length : Int), .slice none 0 0, .slice none 0 0, .slice none 0 0] 28, box b_22 [.map (some b_20)] 59, tbl (Value.int .i64) (Value.int .i64) b_20 number, box b_13 [.int .i64 (0 : Int), .slice none 0 0, .slice none 0 0, .slice none 0 0] 28, box b_11 [.int .i64 t.States, v_1, v_3, v_5] 28, fz fGArc.rep v_5 t.Arcs, fz fGTip.rep v_3 t.Ends, fz fGTip.rep v_1 t.Starts, szA H.size, inZ Z]) (L := L) [1, 2, 3, 4, 5, 6, 7, 8, 9] rfl hO)⟩ (hd_v rfl (fun _ _ => (v_move rfl)) rfl (hd_v rfl (fun _ _ => (v_fieldA Try.underlying28 rfl Try.sizeOf25 rfl)) rfl (hd_v rfl (fun H' hS => by obtain ⟨Z', hO⟩ := hS; exact (v_load1 Try.isAgg25 rfl (Blk.cell (hO.box 3 rfl) rfl))) rfl ?_)))))))))))))
   refine hd_v rfl (fun _ _ => (v_move rfl)) rfl (hd_v rfl (fun _ _ => (v_fieldA Try.underlying28 rfl Try.sizeOf25 rfl)) rfl (hd_v rfl (fun H' hS => by obtain ⟨Z', hO⟩ := hS; exact (v_load1 Try.isAgg25 rfl (Blk.cell (hO.box 3 rfl) rfl))) rfl ?_))
   obtain ⟨hs_57, h⟩ := h
   refine hd_h (h_callv (fs := []) (cs := [ptr b_22 0]) Try.call24 rfl (evs_cons rfl evs_nil) (trim1_spec (a0 := t.Starts) (a1 := number) hs_57 hO (Rd.of_fz (i := 7) rfl) (Tb.of (i := 2) rfl) (Bx.of (i := 1) rfl))) (by rintro v_58 H_59 ⟨Z_60, _, _, rfl, hO⟩; exact ⟨_, (Own.sel (Ls := [own fGTip 45 v_58 (tipsL number t.Starts), box b_55 [.int .i64 (number.length : Int), .slice none 0 0, .slice none 0 0, .slice none 0 0] 28, box b_22 [.map (some b_20)] 59, tbl (Value.int .i64) (Value.int .i64) b_20 number, box b_13 [.int .i64 (0 : Int), .slice none 0 0, .slice none 0 0, .slice none 0 0] 28, box b_11 [.int .i64 t.States, v_1, v_3, v_5] 28, fz fGArc.rep v_5 t.Arcs, fz fGTip.rep v_3 t.Ends, fz fGTip.rep v_1 t.Starts, szA H.size, inZ Z]) (L := L) [2, 3, 4, 5, 6, 7, 8, 9, 10] rfl hO)⟩) rfl ?_
   rintro v_58 H_59 ⟨Z_60, _, _, rfl, hO⟩
   refine hd_v rfl (fun _ _ => (v_fieldA Try.underlying28 rfl Try.sizeOf25 rfl)) rfl ?_
   obtain ⟨hs_62, h⟩ := h
   refine hd_h (h_callv (fs := []) (cs := [ptr b_22 0]) Try.call24 rfl (evs_cons rfl evs_nil) (trim1_spec (a0 := t.Ends) (a1 := number) hs_62 hO (Rd.of_fz (i := 7) rfl) (Tb.of (i := 3) rfl) (Bx.of (i := 2) rfl))) (by rintro v_63 H_64 ⟨Z_65, _, _, rfl, hO⟩; exact ⟨_, (Own.sel (Ls := [own fGTip 45 v_63 (tipsL number t.Ends), own fGTip 45 v_58 (tipsL number t.Starts), box b_55 [.int .i64 (number.length : Int), .slice none 0 0, .slice none 0 0, .slice none 0 0] 28, box b_22 [.map (some b_20)] 59, tbl (Value.int .i64) (Value.int .i64) b_20 number, box b_13 [.int .i64 (0 : Int), .slice none 0 0, .slice none 0 0, .slice none 0 0] 28, box b_11 [.int .i64 t.States, v_1, v_3, v_5] 28, fz fGArc.rep v_5 t.Arcs, fz fGTip.rep v_3 t.Ends, fz fGTip.rep v_1 t.Starts, szA H.size, inZ Z]) (L := L) [3, 4, 5, 6, 7, 8, 9, 10, 11] rfl hO)⟩) rfl ?_
   rintro v_63 H_64 ⟨Z_65, _, _, rfl, hO⟩
   refine hd_s (o_store1 hO 2 rfl Try.sizeOf25 rfl rfl rfl (Sl.one (hO.osl 1 rfl))) (by rintro _ H_67 hO; exact ⟨_, (Own.sel (Ls := [own fGTip 45 v_63 (tipsL number t.Ends), own fGTip 45 v_58 (tipsL number t.Starts), box b_55 [.int .i64 (number.length : Int), v_58, .slice none 0 0, .slice none 0 0] 28, box b_22 [.map (some b_20)] 59, tbl (Value.int .i64) (Value.int .i64) b_20 number, box b_13 [.int .i64 (0 : Int), .slice none 0 0, .slice none 0 0, .slice none 0 0] 28, box b_11 [.int .i64 t.States, v_1, v_3, v_5] 28, fz fGArc.rep v_5 t.Arcs, fz fGTip.rep v_3 t.Ends, fz fGTip.rep v_1 t.Starts, szA H.size, inZ Z]) (L := L) [3, 4, 5, 6, 7, 8, 9, 10, 11] rfl hO)⟩) ?_
   rintro _ H_67 hO
   refine hd_nil (hd_h (OpV.toH (v_fieldA Try.underlying28 rfl Try.sizeOf25 rfl)) (fun _ _ hR => trivial) rfl ?_)
   rintro vv HH ⟨hvv, hHH⟩
   obtain rfl := hvv.symm
   obtain rfl := hHH.symm
   refine hd_s (o_store1 hO 2 rfl Try.sizeOf25 rfl rfl rfl (Sl.one (hO.osl 0 rfl))) (fun _ _ _ => trivial) ?_
   rintro _ H_68 hO
   refine hd_nil (thenQ_n (hw_seq (hw_seq (hw_region (hl_v (v_fieldA Try.underlying28 rfl Try.sizeOf26 rfl) rfl (hl_v (v_load1 Try.isAgg26 rfl (Blk.cell (hO.box 6 rfl) rfl)) rfl ?_))))))
   have hln_69 := Sl.cap (hO.fsl 7 rfl)
   refine hl_v (v_lenL rfl Try.underlying26 rfl (hO.fsl 7 rfl)) rfl (hl_v (v_move rfl) rfl (hl_nil (thenQ_n (hw_block ?_))))
   obtain ⟨I_73, h, hI_75⟩ := h
   replace hO := hO.nil fGArc 55
   refine hw_lp (fun n' g' H' => ∃ (out : GFst) (k2 : Nat) (v_70 : Value) (v_71 : Value) (v_72 : Value) (Z' : Nat → Prop), n' = t.Arcs.length - k2 ∧ g' = [(2, ptr b_13 0), (5, ptr b_22 0), (7, ptr b_55 0), (44, v_5), (45, .int .i64 (t.Arcs.length : Int)), (46, .int .i64 (k2 : Int))] ∧ I_73 out k2 ∧ k2 ≤ t.Arcs.length ∧ Own H' Z' (own fGArc 55 v_72 out.Arcs :: own fGTip 45 v_71 out.Ends :: own fGTip 45 v_70 out.Starts :: box b_55 [.int .i64 out.States, v_70, v_71, v_72] 28 :: box b_22 [.map (some b_20)] 59 :: tbl (Value.int .i64) (Value.int .i64) b_20 number :: box b_13 [.int .i64 (0 : Int), .slice none 0 0, .slice none 0 0, .slice none 0 0] 28 :: fz fGArc.rep v_5 t.Arcs :: szA H.size :: inZ Z :: L)) _ _ (a_c 2 rfl (a_c 5 rfl (a_c 7 rfl (a_c 44 rfl (a_c 45 rfl (a_c 46 rfl a_n)))))) ⟨(⟨(number.length : Int), (tipsL number t.Starts), (tipsL number t.Ends), []⟩ : GFst), 0, v_58, v_63, .slice none 0 0, _, rfl, rfl, h, by omega, (Own.sel (Ls := [own fGArc 55 (.slice none 0 0) [], own fGTip 45 v_63 (tipsL number t.Ends), own fGTip 45 v_58 (tipsL number t.Starts), box b_55 [.int .i64 (number.length : Int), v_58, v_63, .slice none 0 0] 28, box b_22 [.map (some b_20)] 59, tbl (Value.int .i64) (Value.int .i64) b_20 number, box b_13 [.int .i64 (0 : Int), .slice none 0 0, .slice none 0 0, .slice none 0 0] 28, box b_11 [.int .i64 t.States, v_1, v_3, v_5] 28, fz fGArc.rep v_5 t.Arcs, fz fGTip.rep v_3 t.Ends, fz fGTip.rep v_1 t.Starts, szA H.size, inZ Z]) (L := L) [0, 1, 2, 3, 4, 5, 6, 8, 11, 12] rfl hO)⟩ ?_
   rintro _ _ H_76 ⟨out, k2, v_70, v_71, v_72, Z_77, rfl, rfl, h, hb_78, hO⟩
   replace h := hI_75 out k2 h hb_78
   refine hw_seq (hw_region (hl_v (v_lss rfl rfl) rfl (hl_nil (thenQ_n (hw_seq (hw_cond rfl (fun hc_79 => ?_) (fun hc_79 => ?_)))))))
   ·replace h := ite_t h hc_79
    refine hw_skip (thenQ_n (hw_seq (hw_block (hw_seq (hw_region (hl_v (v_ixL Try.underlying26 Try.sizeOf55 rfl rfl (hO.fsl 7 rfl) (by exact ⟨Int.natCast_nonneg _, of_decide_eq_true hc_79⟩)) rfl (hl_v (v_loadFl Try.isAgg55 Try.sizeOf55 rfl (hO.fsl 7 rfl) rfl (by exact ⟨Int.natCast_nonneg _, of_decide_eq_true hc_79⟩)) rfl (hl_h (o_alloc (cs := (fGArc.enc (⟨(0 : Int), (0 : Int), BSet.zero, ([] : List UInt8), false⟩ : GArc))) hO Try.zeroValue55 rfl) rfl ?_))))))))
    rintro _ H_80 ⟨b_81, rfl, hO⟩
    refine hl_s (o_storeA (us := (fGArc.enc (t.Arcs.getD k2 default))) hO 0 rfl Try.sizeOf55 rfl rfl rfl rfl (by intro u hu; exact (fGArc).one _ u hu)) ?_
    rintro _ H_82 hO
    refine hl_nil (thenQ_n (hw_seq (hw_region (hl_v (v_load1 Try.isAgg59 rfl (Blk.cell (hO.box 5 rfl) rfl)) rfl (hl_v (v_fieldA Try.underlying55 rfl Try.sizeOf3 rfl) rfl (hl_v (v_load1 Try.isAgg3 rfl (Blk.cell (hO.box 0 rfl) rfl)) rfl (hl_v (v_lookup2 (d := (0 : Int)) (keyInt Try.underlying3) rfl Try.underlying59 Try.zeroValue3 rfl rfl (hO.tbl 6 rfl)) rfl (hl_v (v_move rfl) rfl (hl_v (v_extract rfl rfl) rfl (hl_v (v_extract rfl rfl) rfl (hl_v (v_assign rfl) rfl (hl_v (v_assign rfl) rfl (hl_nil (thenQ_n (hw_sub _ (a_c 2 rfl (a_c 5 rfl (a_c 7 rfl (a_c 10 rfl (a_c 11 rfl (a_c 12 rfl (a_c 44 rfl (a_c 45 rfl (a_c 46 rfl a_n))))))))) (hw_seq (hw_region (hl_v (v_load1 Try.isAgg59 rfl (Blk.cell (hO.box 5 rfl) rfl)) rfl (hl_v (v_fieldA Try.underlying55 rfl Try.sizeOf3 rfl) rfl (hl_v (v_load1 Try.isAgg3 rfl (Blk.cell (hO.box 0 rfl) rfl)) rfl (hl_v (v_lookup2 (d := (0 : Int)) (keyInt Try.underlying3) rfl Try.underlying59 Try.zeroValue3 rfl rfl (hO.tbl 6 rfl)) rfl (hl_v (v_move rfl) rfl (hl_v (v_extract rfl rfl) rfl (hl_v (v_extract rfl rfl) rfl (hl_v (v_assign rfl) rfl (hl_v (v_assign rfl) rfl (hl_nil (thenQ_n (hw_sub _ (a_c 2 rfl (a_c 5 rfl (a_c 7 rfl (a_c 10 rfl (a_c 11 rfl (a_c 12 rfl (a_c 13 rfl (a_c 14 rfl (a_c 44 rfl (a_c 45 rfl (a_c 46 rfl a_n))))))))))) (hw_seq (hw_region (hl_v (v_move rfl) rfl (hl_v (v_move rfl) rfl (hl_g rfl rfl (fun hg => (v_move rfl)) rfl (hl_v (v_and rfl rfl) rfl (hl_nil (thenQ_n (hw_sub _ (a_c 2 rfl (a_c 5 rfl (a_c 7 rfl (a_c 10 rfl (a_c 11 rfl (a_c 13 rfl (a_c 44 rfl (a_c 45 rfl (a_c 46 rfl (a_c 67 rfl a_n)))))))))) (hw_cond rfl (fun hc_83 => ?_) (fun hc_83 => ?_))))))))))))))))))))))))))))))))))))))))
    ·replace h := ite_t h hc_83
     refine hw_seq (hw_region (hl_v (v_move rfl) rfl (hl_v (v_move rfl) rfl (hl_v (v_fieldA Try.underlying55 rfl Try.sizeOf3 rfl) rfl (hl_s (o_store1 hO 0 rfl Try.sizeOf3 rfl rfl rfl rfl) ?_)))))
     rintro _ H_84 hO
     refine hl_v (v_fieldA Try.underlying55 rfl Try.sizeOf3 rfl) rfl (hl_s (o_store1 hO 0 rfl Try.sizeOf3 rfl rfl rfl rfl) ?_)
     rintro _ H_85 hO
     refine hl_nil (thenQ_n (hw_region (hl_v (v_fieldA Try.underlying28 rfl Try.sizeOf26 rfl) rfl (hl_v (v_load1 Try.isAgg26 rfl (Blk.cell (hO.box 4 rfl) rfl)) rfl (hl_v (v_loadA Try.isAgg55 Try.sizeOf55 rfl (Blk.at0 (hO.box 0 rfl)) rfl) rfl (hl_h (o_lit (g := fGArc) (l := [{ { (t.Arcs.getD k2 default) with From := ((aget number ((t.Arcs.getD k2 default).From)).getD (0 : Int)) } with To := ((aget number ((t.Arcs.getD k2 default).To)).getD (0 : Int)) }]) (xs := [.tmp 74]) hO Try.underlying26 Try.sizeOf55 Try.zeroValue55 rfl (evs_cons rfl evs_nil) rfl rfl rfl rfl rfl) rfl ?_))))))
     rintro v_87 H_86 hO
     obtain ⟨hs_90, h⟩ := h
     refine hl_h (o_append (l2 := [{ { (t.Arcs.getD k2 default) with From := ((aget number ((t.Arcs.getD k2 default).From)).getD (0 : Int)) } with To := ((aget number ((t.Arcs.getD k2 default).To)).getD (0 : Int)) }]) hO 2 rfl rfl Try.underlying26 Try.type55 rfl rfl rfl rfl rfl rfl rfl (hO.osl 0 rfl) hs_90 (le63 hs_90 rfl)) rfl ?_
     rintro v_89 H_88 hO
     replace hO : Own H_88 Z_77 (own fGArc 55 v_87 [{ { (t.Arcs.getD k2 default) with From := ((aget number ((t.Arcs.getD k2 default).From)).getD (0 : Int)) } with To := ((aget number ((t.Arcs.getD k2 default).To)).getD (0 : Int)) }] :: box b_81 (fGArc.enc ({ { (t.Arcs.getD k2 default) with From := ((aget number ((t.Arcs.getD k2 default).From)).getD (0 : Int)) } with To := ((aget number ((t.Arcs.getD k2 default).To)).getD (0 : Int)) })) 55 :: own fGArc 55 v_89 (out.Arcs ++ [{ { (t.Arcs.getD k2 default) with From := ((aget number ((t.Arcs.getD k2 default).From)).getD (0 : Int)) } with To := ((aget number ((t.Arcs.getD k2 default).To)).getD (0 : Int)) }]) :: own fGTip 45 v_71 out.Ends :: own fGTip 45 v_70 out.Starts :: box b_55 [.int .i64 out.States, v_70, v_71, v_72] 28 :: box b_22 [.map (some b_20)] 59 :: tbl (Value.int .i64) (Value.int .i64) b_20 number :: box b_13 [.int .i64 (0 : Int), .slice none 0 0, .slice none 0 0, .slice none 0 0] 28 :: fz fGArc.rep v_5 t.Arcs :: szA H.size :: inZ Z :: L) := hO
     refine hl_v (v_fieldA Try.underlying28 rfl Try.sizeOf26 rfl) rfl (hl_s (o_store1 hO 5 rfl Try.sizeOf26 rfl rfl rfl (Sl.one (hO.osl 2 rfl))) ?_)
     rintro _ H_91 hO
     refine hl_nil (blockQ_n (thenQ_n (hw_region (hl_v (v_add rfl rfl (by have hq := of_decide_eq_true hc_79; have hm := hln_69; constructor <;> omega)) rfl (hl_v (v_move rfl) rfl (hl_nil (thenQ_n ?_)))))))
     exact ⟨_, _, (a_c 2 rfl (a_c 5 rfl (a_c 7 rfl (a_c 44 rfl (a_c 45 rfl (a_c 46 rfl a_n)))))), ⟨(⟨out.States, out.Starts, out.Ends, (out.Arcs ++ [{ { (t.Arcs.getD k2 default) with From := ((aget number ((t.Arcs.getD k2 default).From)).getD (0 : Int)) } with To := ((aget number ((t.Arcs.getD k2 default).To)).getD (0 : Int)) }])⟩ : GFst), k2 + 1, v_70, v_71, v_89, _, rfl, rfl, h, (by have hq := of_decide_eq_true hc_79; omega), (Own.sel (Ls := [own fGArc 55 v_87 [{ { (t.Arcs.getD k2 default) with From := ((aget number ((t.Arcs.getD k2 default).From)).getD (0 : Int)) } with To := ((aget number ((t.Arcs.getD k2 default).To)).getD (0 : Int)) }], box b_81 (fGArc.enc ({ { (t.Arcs.getD k2 default) with From := ((aget number ((t.Arcs.getD k2 default).From)).getD (0 : Int)) } with To := ((aget number ((t.Arcs.getD k2 default).To)).getD (0 : Int)) })) 55, own fGArc 55 v_89 (out.Arcs ++ [{ { (t.Arcs.getD k2 default) with From := ((aget number ((t.Arcs.getD k2 default).From)).getD (0 : Int)) } with To := ((aget number ((t.Arcs.getD k2 default).To)).getD (0 : Int)) }]), own fGTip 45 v_71 out.Ends, own fGTip 45 v_70 out.Starts, box b_55 [.int .i64 out.States, v_70, v_71, v_89] 28, box b_22 [.map (some b_20)] 59, tbl (Value.int .i64) (Value.int .i64) b_20 number, box b_13 [.int .i64 (0 : Int), .slice none 0 0, .slice none 0 0, .slice none 0 0] 28, fz fGArc.rep v_5 t.Arcs, szA H.size, inZ Z]) (L := L) [2, 3, 4, 5, 6, 7, 8, 9, 10, 11] rfl hO)⟩, (by have hq := of_decide_eq_true hc_79; omega)⟩
    ·replace h := ite_f h hc_83
     refine hw_skip (blockQ_n (thenQ_n (hw_region (hl_v (v_add rfl rfl (by have hq := of_decide_eq_true hc_79; have hm := hln_69; constructor <;> omega)) rfl (hl_v (v_move rfl) rfl (hl_nil (thenQ_n ?_)))))))
     exact ⟨_, _, (a_c 2 rfl (a_c 5 rfl (a_c 7 rfl (a_c 44 rfl (a_c 45 rfl (a_c 46 rfl a_n)))))), ⟨out, k2 + 1, v_70, v_71, v_72, _, rfl, rfl, h, (by have hq := of_decide_eq_true hc_79; omega), (Own.sel (Ls := [box b_81 (fGArc.enc (t.Arcs.getD k2 default)) 55, own fGArc 55 v_72 out.Arcs, own fGTip 45 v_71 out.Ends, own fGTip 45 v_70 out.Starts, box b_55 [.int .i64 out.States, v_70, v_71, v_72] 28, box b_22 [.map (some b_20)] 59, tbl (Value.int .i64) (Value.int .i64) b_20 number, box b_13 [.int .i64 (0 : Int), .slice none 0 0, .slice none 0 0, .slice none 0 0] 28, fz fGArc.rep v_5 t.Arcs, szA H.size, inZ Z]) (L := L) [1, 2, 3, 4, 5, 6, 7, 8, 9, 10] rfl hO)⟩, (by have hq := of_decide_eq_true hc_79; omega)⟩
   ·replace h := ite_f h hc_79
    refine hw_exit (thenQ_e (thenQ_e (blockQ_hit (thenQ_n (hw_seq (hw_region (hl_v (v_loadA Try.isAgg28 Try.sizeOf28 rfl (Blk.at0 (hO.box 3 rfl)) rfl) rfl ?_)))))))
    obtain ⟨Z_92, _, hO⟩ := hO.freeze (i := 2) rfl
    obtain ⟨Z_93, _, hO⟩ := hO.freeze (i := 1) rfl
    obtain ⟨Z_94, _, hO⟩ := hO.freeze (i := 0) rfl
    refine hl_h (h_call Try.call25 (evs_cons rfl evs_nil) (fSortP_spec (a0 := out) hO (Fz.of (i := 2) rfl) (Fz.of (i := 1) rfl) (Fz.of (i := 0) rfl))) rfl ?_
    rintro _ H_98 ⟨Z_99, v_95, v_96, v_97, _, rfl, hO⟩
    refine hl_v (v_extract rfl rfl) rfl (hl_v (v_extract rfl rfl) rfl (hl_s (o_storeA (us := [.int .i64 (((fSort out).1).States), v_95, v_96, v_97]) hO 9 rfl Try.sizeOf28 rfl rfl rfl rfl (by simp only [List.forall_mem_cons]; exact ⟨rfl, (Sl.one (hO.osl 0 rfl)), (Sl.one (hO.osl 1 rfl)), (Sl.one (hO.osl 2 rfl)), by simp⟩)) ?_))
    rintro _ H_101 hO
    replace hO : Own H_101 Z_99 (own fGTip 45 v_95 (((fSort out).1).Starts) :: own fGTip 45 v_96 (((fSort out).1).Ends) :: own fGArc 55 v_97 (((fSort out).1).Arcs) :: fz fGArc.rep v_72 out.Arcs :: fz fGTip.rep v_71 out.Ends :: fz fGTip.rep v_70 out.Starts :: box b_55 [.int .i64 out.States, v_70, v_71, v_72] 28 :: box b_22 [.map (some b_20)] 59 :: tbl (Value.int .i64) (Value.int .i64) b_20 number :: box b_13 [.int .i64 (((fSort out).1).States), v_95, v_96, v_97] 28 :: fz fGArc.rep v_5 t.Arcs :: szA H.size :: inZ Z :: L) := hO
    refine hl_v (v_assign rfl) rfl (hl_nil (thenQ_n (hw_ret (retm_i (fun G' hsh => ?_)))))
    replace hO := hO.shutB hsh
    refine ⟨_, (ra_c rfl (fun w hw => run_loadVar_at (cs := [.int .i64 (((fSort out).1).States), v_95, v_96, v_97]) Try.isAgg28 Try.sizeOf28 (Blk.at0 (hO.box 9 rfl)) rfl w hw) (ra_t rfl ra_nil)), ?_⟩
    exact ⟨_, ((fSort out).1), (fSort out).2, v_95, v_96, v_97, (hO.inz 12 rfl), h, rfl, (Own.sel (Ls := [own fGTip 45 v_95 (((fSort out).1).Starts), own fGTip 45 v_96 (((fSort out).1).Ends), own fGArc 55 v_97 (((fSort out).1).Arcs), fz fGArc.rep v_72 out.Arcs, fz fGTip.rep v_71 out.Ends, fz fGTip.rep v_70 out.Starts, box b_55 [.int .i64 out.States, v_70, v_71, v_72] 28, box b_22 [.map (some b_20)] 59, tbl (Value.int .i64) (Value.int .i64) b_20 number, box b_13 [.int .i64 (((fSort out).1).States), v_95, v_96, v_97] 28, fz fGArc.rep v_5 t.Arcs, szA H.size, inZ Z]) (L := L) [0, 1, 2] rfl hO)⟩
theorem trimP_spec {a0 : GFst} {v_1 : Value} {v_3 : Value} {v_5 : Value} {L : List As} {H : Heap} {Z : Nat → Prop} (hO : Own H Z (L)) (hf_2 : Fz fGTip.rep L v_1 a0.Starts) (hf_4 : Fz fGTip.rep L v_3 a0.Ends) (hf_6 : Fz fGArc.rep L v_5 a0.Arcs) : HC Try.prog 11 [.agg [.int .i64 a0.States, v_1, v_3, v_5].toArray] H (fun v H' => ∃ (Z' : Nat → Prop) (v_7 : Value) (v_8 : Value) (v_9 : Value), (∀ b, Z b → Z' b) ∧ v = .tuple #[.agg [.int .i64 ((pTrim a0).1).States, v_7, v_8, v_9].toArray, .int .i64 ((pTrim a0).2)] ∧ Own H' Z' (own fGTip 45 v_7 ((pTrim a0).1).Starts :: own fGTip 45 v_8 ((pTrim a0).1).Ends :: own fGArc 55 v_9 ((pTrim a0).1).Arcs :: L)) := by
  refine (trimP_ok (t := a0) (@trimP_wp a0) hO hf_2 hf_4 hf_6).mono ?_
  rintro v H' ⟨Z', r0, r1, v_7, v_8, v_9, hz, hq, hv, hO'⟩
  obtain ⟨rfl, rfl⟩ := hq
  exact ⟨Z', v_7, v_8, v_9, hz, hv, hO'⟩

end Go.Proofs.Ythofnojmgkjmfaa

set_option linter.unusedVariables false
set_option linter.unusedSimpArgs false
set_option maxRecDepth 20000
namespace Go.Proofs.Ythofnojmgkjmfaa
open Go.Proofs
theorem eqv_42_20 (a b : Gtwin_lag) (w : World) : (Op.equalIn 10000 42 (.agg (fGtwin_lag.enc a).toArray) (.agg (fGtwin_lag.enc b).toArray)).run Try.prog w = .ok (decide (a = b)) w := by
  have hF := (show ∀ fs, Try.prog.underlying 42 = some (.struct fs) → Try.prog.fieldsOf 42 = fs from fun fs h => by unfold Program.fieldsOf; rw [h]) _ Try.underlying42
  have e : decide (a = b) = (decide (a.p = b.p) && (decide (a.q = b.q) && (decide (a.a = b.a) && (decide (a.b = b.b) && true)))) := by
    obtain ⟨a0, a1, a2, a3⟩ := a; obtain ⟨b0, b1, b2, b3⟩ := b
    rw [Bool.eq_iff_iff]; simp [Gtwin_lag.mk.injEq]
  rw [e, show (10000 : Nat) = 9999 + 1 from rfl, run_equalIn_struct w 9999 42 _ _ (by rw [hF]; exact Try.underlying42) (by kernel_rfl), hF]
  exact (eqF_cons (by decide) (part1 Try.isAgg3 rfl) (part1 Try.isAgg3 rfl) (eqI Try.underlying3) (eqF_cons (by decide) (part1 Try.isAgg3 rfl) (part1 Try.isAgg3 rfl) (eqI Try.underlying3) (eqF_cons (by decide) (part1 Try.isAgg9 rfl) (part1 Try.isAgg9 rfl) (eqS Try.underlying9) (eqF_cons (by decide) (part1 Try.isAgg9 rfl) (part1 Try.isAgg9 rfl) (eqS Try.underlying9) eqF_nil)))) w
def key_42_20 : KeyT Try.prog Gtwin_lag 42 := keyRec fGtwin_lag.enc Try.underlying42 (fun _ _ => rfl) (fun a b w => eqv_42_20 a b w) (fun e x w => run_check_rec Try.underlying42 (List.forall_mem_cons.2 ⟨⟨_, part1 Try.isAgg3 rfl, chk1 Try.underlying3 (by first | exact rfl | exact trivial)⟩, (List.forall_mem_cons.2 ⟨⟨_, part1 Try.isAgg3 rfl, chk1 Try.underlying3 (by first | exact rfl | exact trivial)⟩, (List.forall_mem_cons.2 ⟨⟨_, part1 Try.isAgg9 rfl, chk1 Try.underlying9 (by first | exact rfl | exact trivial)⟩, (List.forall_mem_cons.2 ⟨⟨_, part1 Try.isAgg9 rfl, chk1 Try.underlying9 (by first | exact rfl | exact trivial)⟩, (fun f hf => absurd hf List.not_mem_nil)⟩)⟩)⟩)⟩) w) (fun x => bits_agg (by
  intro v hv
  simp only [fGtwin_lag, List.mem_cons, List.not_mem_nil, or_false] at hv
  rcases hv with rfl | rfl | rfl | rfl <;> first | exact bits_int _ _ | exact bits_str _ | exact bits_bool _))
theorem textCommon_ok {a : List UInt8} {b : List UInt8}  {Q : Int → Prop} {H : Heap} {Z : Nat → Prop} {L : List As} (h : wp_textCommon a b Q) (hO : Own H Z (L))  : HC Try.prog 45 [str a, str b] H (fun v H' => ∃ (r0 : Int) , Q r0 ∧ v = .int .i64 r0 ∧ H' = H) := by
 unfold wp_textCommon at h
 refine hc_of_hw (N := 28) (rs := [(.tmp 4)]) Try.func45 rfl rfl rfl rfl (hw_seq (hw_region (hl_v (v_assign rfl) rfl (hl_nil (thenQ_n (hw_seq (hw_region (hl_v (v_assign rfl) rfl (hl_nil (thenQ_n (hw_seq (hw_block ?_))))))))))))
 obtain ⟨I_1, μ_2, h, hI_3⟩ := h
 refine hw_lp (fun n' g' H' => ∃ (n : Int) (Z' : Nat → Prop), n' = μ_2 n ∧ g' = [(0, str a), (1, str b), (5, .int .i64 n)] ∧ I_1 n ∧ Own H' Z' (L) ∧ H = H') _ _ (a_c 0 rfl (a_c 1 rfl (a_c 5 rfl a_n))) ⟨0, _, rfl, rfl, h, hO, rfl⟩ ?_
 rintro _ _ H_4 ⟨n, Z_5, rfl, rfl, h, hO, rfl⟩
 replace h := hI_3 n h
 refine hw_seq (hw_seq (hw_quiet Try.mixed (by kernel_rfl) (hq_v (v_move rfl) rfl (hq_v (v_move rfl) rfl (hq_v (v_lenS rfl Try.underlying9 rfl) rfl (hq_v (v_lss rfl rfl) rfl (hq_v (v_move rfl) rfl (hq_g rfl rfl (fun hg => (v_move rfl)) rfl (hq_g rfl rfl (fun hg => (v_move rfl)) rfl (hq_g rfl rfl (fun hg => (v_lenS rfl Try.underlying9 (gv_ok rfl hg))) rfl (hq_g rfl rfl (fun hg => (v_lss (gv_ok rfl hg) (gv_ok rfl hg))) rfl (hq_v (v_and rfl rfl) rfl (hq_v (v_move rfl) rfl (hq_g rfl rfl (fun hg => (v_move rfl)) rfl (hq_g rfl rfl (fun hg => (v_move rfl)) rfl ?_)))))))))))))))
 obtain ⟨hs_7, h⟩ := h
 refine hq_g rfl rfl (fun hg => (v_idxS Try.underlying9 (gv_ok rfl hg) (gv_ok rfl hg) (hs_7 (gb_bool hg)))) rfl (hq_g rfl rfl (fun hg => (v_move rfl)) rfl (hq_g rfl rfl (fun hg => (v_move rfl)) rfl ?_))
 obtain ⟨hs_8, h⟩ := h
 refine hq_g rfl rfl (fun hg => (v_idxS Try.underlying9 (gv_ok rfl hg) (gv_ok rfl hg) (hs_8 (gb_bool hg)))) rfl (hq_g rfl rfl (fun hg => (v_eql (gv_ok rfl hg) (gv_ok rfl hg))) rfl (hq_v (v_and rfl rfl) rfl (hq_nil (thenQ_n (hw_sub _ (a_c 0 rfl (a_c 1 rfl (a_c 5 rfl (a_c 24 rfl a_n)))) (hw_cond rfl (fun hc_9 => ?_) (fun hc_9 => ?_)))))))
 ·replace h := ite_t h hc_9
  refine hw_skip (thenQ_n (hw_block (hw_region (hl_v (v_move rfl) rfl ?_))))
  obtain ⟨hs_10, h⟩ := h
  refine hl_v (v_add rfl rfl hs_10) rfl (hl_v (v_assign rfl) rfl (hl_nil (blockQ_n (thenQ_n ?_))))
  exact ⟨_, _, (a_c 0 rfl (a_c 1 rfl (a_c 5 rfl a_n))), ⟨(n + 1), _, rfl, rfl, h.1, hO, rfl⟩, h.2⟩
 ·replace h := ite_f h hc_9
  refine hw_exit (thenQ_e (thenQ_e (blockQ_hit (thenQ_n (hw_seq (hw_region (hl_v (v_move rfl) rfl (hl_v (v_assign rfl) rfl (hl_nil (thenQ_n (hw_ret (ret_i _ (ra_t rfl ra_nil) ?_))))))))))))
  exact ⟨n, h, rfl, rfl⟩
theorem textCommon_spec {a0 : List UInt8} {a1 : List UInt8}  {L : List As} (hp : a0.length ≤ 9223372036854775807 ∧ a1.length ≤ 9223372036854775807) {H : Heap} {Z : Nat → Prop} (hO : Own H Z (L))  : HC Try.prog 45 [str a0, str a1] H (fun v H' => v = .int .i64 (((lcp a0 a1 : Nat) : Int)) ∧ H' = H) := by
  refine (textCommon_ok (a := a0) (b := a1) (@textCommon_wp a0 a1 hp) hO).mono ?_
  rintro v H' ⟨r0, hq, hv, hH⟩
  obtain rfl := hq
  exact ⟨hv, hH⟩

theorem textLagP_ok {a : List UInt8} {b : List UInt8}  {Q : (List UInt8) → (List UInt8) → Prop} {H : Heap} {Z : Nat → Prop} {L : List As} (h : wp_textLagP a b Q) (hO : Own H Z (L))  : HC Try.prog 29 [str a, str b] H (fun v H' => ∃ (r0 : List UInt8) (r1 : List UInt8) , Q r0 r1 ∧ v = .tuple #[str r0, str r1] ∧ H' = H) := by
 unfold wp_textLagP at h
 refine hc_of_hw (N := 16) (rs := [(.tmp 4), (.tmp 5)]) Try.func29 rfl rfl rfl rfl (hw_seq (hw_region (hl_v (v_assign rfl) rfl (hl_v (v_assign rfl) rfl (hl_nil (thenQ_n (hw_seq (hw_region (hl_v (v_move rfl) rfl (hl_v (v_move rfl) rfl ?_))))))))))
 obtain ⟨hs_1, h⟩ := h
 refine hl_v (v_call Try.call45 (evs_cons rfl (evs_cons rfl evs_nil)) (textCommon_spec (a0 := a) (a1 := b) hs_1 hO)) rfl (hl_v (v_assign rfl) rfl (hl_nil (thenQ_n (hw_seq (hw_quiet Try.mixed (by kernel_rfl) (hq_v (v_move rfl) rfl (hq_v (v_move rfl) rfl ?_)))))))
 obtain ⟨hs_2, h⟩ := h
 refine hq_v (v_sliceSl Try.underlying9 rfl rfl hs_2) rfl (hq_v (v_move rfl) rfl (hq_v (v_move rfl) rfl ?_))
 obtain ⟨hs_3, h⟩ := h
 refine hq_v (v_sliceSl Try.underlying9 rfl rfl hs_3) rfl (hq_v (v_assign rfl) rfl (hq_v (v_assign rfl) rfl (hq_nil (thenQ_n (hw_ret (ret_i _ (ra_t rfl (ra_t rfl ra_nil)) ?_))))))
 exact ⟨(a.drop ((lcp a b : Nat) : Int).toNat), (b.drop ((lcp a b : Nat) : Int).toNat), h, rfl, rfl⟩
theorem textLagP_spec {a0 : List UInt8} {a1 : List UInt8}  {L : List As} (hp : a0.length ≤ 9223372036854775807 ∧ a1.length ≤ 9223372036854775807) {H : Heap} {Z : Nat → Prop} (hO : Own H Z (L))  : HC Try.prog 29 [str a0, str a1] H (fun v H' => v = .tuple #[str ((a0.drop (lcp a0 a1))), str ((a1.drop (lcp a0 a1)))] ∧ H' = H) := by
  refine (textLagP_ok (a := a0) (b := a1) (@textLagP_wp a0 a1 hp) hO).mono ?_
  rintro v H' ⟨r0, r1, hq, hv, hH⟩
  obtain ⟨rfl, rfl⟩ := hq
  exact ⟨hv, hH⟩

theorem setBoth_spec {a0 a1 : BSet} {L : List As} {H : Heap} {Z : Nat → Prop} (hO : Own H Z L) : HC Try.prog 32 [sv a0, sv a1] H (fun v H' => ∃ (Z' : Nat → Prop), (∀ b, Z b → Z' b) ∧ v = sv (BSet.band a0 a1) ∧ Own H' Z' L) :=
  Both_spec.mono fun v H' ⟨h1, h2⟩ => ⟨Z, fun _ h => h, h1, hO.ext h2⟩
theorem setRows_spec {a0 : BSet} {L : List As} {H : Heap} {Z : Nat → Prop} (hO : Own H Z L) : HC Try.prog 31 [sv a0] H (fun v H' => ∃ (Z' : Nat → Prop) (v_1 : Value), (∀ b, Z b → Z' b) ∧ v = v_1 ∧ Own H' Z' (own fPair 75 v_1 (a0.rows) :: L)) :=
  Rows_spec.mono fun v H' ⟨h1, h2⟩ => ⟨Z, v, fun _ h => h, rfl, hO.made h1 h2⟩
theorem setFirst_spec {a0 : BSet} {L : List As} {H : Heap} {Z : Nat → Prop} (hO : Own H Z L) : HC Try.prog 76 [sv a0] H (fun v H' => ∃ (Z' : Nat → Prop), (∀ b, Z b → Z' b) ∧ v = .tuple #[.int .u8 (a0.bytes.getD 0 0).toNat, .bool (decide (a0.mem.length ≠ 0))] ∧ Own H' Z' L) :=
  First_spec.mono fun v H' ⟨h1, h2⟩ => ⟨Z, fun _ h => h, h1, hO.ext h2⟩
theorem twinOf_ok {p : Int} {q : Int} {a : List UInt8} {b : List UInt8}  {Q : Gtwin_lag → Prop} {H : Heap} {Z : Nat → Prop} {L : List As} (h : wp_twinOf p q a b Q) (hO : Own H Z (L))  : HC Try.prog 18 [.int .i64 p, .int .i64 q, str a, str b] H (fun v H' => ∃ (Z' : Nat → Prop) (r0 : Gtwin_lag) , (∀ b, Z b → Z' b) ∧ Q r0 ∧ v = .agg (fGtwin_lag.enc r0).toArray ∧ Own H' Z' (L)) := by
 replace hO := hO.inZ
 unfold wp_twinOf at h
 refine hc_of_hw (N := 22) (rs := [(.cell 8 42)]) Try.func18 rfl rfl rfl rfl (hw_seq (hw_region (hl_h (o_alloc (cs := (fGtwin_lag.enc (⟨(0 : Int), (0 : Int), ([] : List UInt8), ([] : List UInt8)⟩ : Gtwin_lag))) hO Try.zeroValue42 rfl) rfl ?_)))
 rintro _ H_1 ⟨b_2, rfl, hO⟩
 refine hl_nil (thenQ_n (hw_seq (hw_region (hl_v (v_move rfl) rfl (hl_v (v_move rfl) rfl ?_)))))
 obtain ⟨hs_3, h⟩ := h
 refine hl_v (v_call Try.call29 (evs_cons rfl (evs_cons rfl evs_nil)) (textLagP_spec (a0 := a) (a1 := b) hs_3 hO)) rfl (hl_v (v_move rfl) rfl (hl_v (v_extract rfl rfl) rfl (hl_v (v_extract rfl rfl) rfl (hl_v (v_assign rfl) rfl (hl_v (v_assign rfl) rfl (hl_nil (thenQ_n (hw_seq (hw_region (hl_v (v_move rfl) rfl (hl_v (v_move rfl) rfl (hl_v (v_move rfl) rfl (hl_v (v_move rfl) rfl (hl_v (v_buildF (cs := (fGtwin_lag.enc (⟨p, q, (a.drop (lcp a b)), (b.drop (lcp a b))⟩ : Gtwin_lag))) (xs := [.tmp 17, .tmp 18, .tmp 19, .tmp 20]) (is := [0, 1, 2, 3]) rfl (evs_cons rfl (evs_cons rfl (evs_cons rfl (evs_cons rfl evs_nil)))) (fun w => by show _ = _; kernel_rfl)) rfl (hl_s (o_storeA (us := (fGtwin_lag.enc (⟨p, q, (a.drop (lcp a b)), (b.drop (lcp a b))⟩ : Gtwin_lag))) hO 0 rfl Try.sizeOf42 rfl rfl rfl rfl (by intro u hu; exact (fGtwin_lag).one _ u hu)) ?_)))))))))))))))
 rintro _ H_4 hO
 refine hl_nil (thenQ_n (hw_sub _ (a_c 8 rfl a_n) (hw_ret (ret_i _ (ra_c rfl (fun w hw => run_loadVar_at (cs := (fGtwin_lag.enc (⟨p, q, (a.drop (lcp a b)), (b.drop (lcp a b))⟩ : Gtwin_lag))) Try.isAgg42 Try.sizeOf42 (Blk.at0 (hO.box 0 rfl)) rfl w hw) ra_nil) ?_))))
 exact ⟨_, (⟨p, q, (a.drop (lcp a b)), (b.drop (lcp a b))⟩ : Gtwin_lag), (hO.inz 1 rfl), h, rfl, (Own.sel (Ls := [box b_2 (fGtwin_lag.enc (⟨p, q, (a.drop (lcp a b)), (b.drop (lcp a b))⟩ : Gtwin_lag)) 42, inZ Z]) (L := L) [] rfl hO)⟩
theorem twinOf_spec {a0 : Int} {a1 : Int} {a2 : List UInt8} {a3 : List UInt8}  {L : List As} (hp : a2.length ≤ 9223372036854775807 ∧ a3.length ≤ 9223372036854775807) {H : Heap} {Z : Nat → Prop} (hO : Own H Z (L))  : HC Try.prog 18 [.int .i64 a0, .int .i64 a1, str a2, str a3] H (fun v H' => ∃ (Z' : Nat → Prop) , (∀ a3, Z a3 → Z' a3) ∧ v = .agg (fGtwin_lag.enc ((tOf a0 a1 a2 a3))).toArray ∧ Own H' Z' (L)) := by
  refine (twinOf_ok (p := a0) (q := a1) (a := a2) (b := a3) (@twinOf_wp a0 a1 a2 a3 hp) hO).mono ?_
  rintro v H' ⟨Z', r0, hz, hq, hv, hO'⟩
  obtain rfl := hq
  exact ⟨Z', hz, hv, hO'⟩

theorem twinOut_ok {x : GArc} {b : UInt8}  {Q : (List UInt8) → Prop} {H : Heap} {Z : Nat → Prop} {L : List As} (h : wp_twinOut x b Q) (hO : Own H Z (L))  : HC Try.prog 28 [.agg (fGArc.enc x).toArray, .int .u8 (b.toNat : Int)] H (fun v H' => ∃ (Z' : Nat → Prop) (r0 : List UInt8) , (∀ b, Z b → Z' b) ∧ Q r0 ∧ v = str r0 ∧ Own H' Z' (L)) := by
 replace hO := hO.inZ
 unfold wp_twinOut at h
 refine hc_of_hw (N := 15) (rs := [(.tmp 4)]) Try.func28 rfl rfl rfl rfl (hw_seq (hw_region (hl_h (o_box (cs := (fGArc.enc x)) hO rfl rfl) rfl ?_)))
 rintro _ H_1 ⟨b_2, rfl, hO⟩
 refine hl_v (v_assign rfl) rfl (hl_nil (thenQ_n (hw_seq (hw_seq (hw_region (hl_v (v_fieldA Try.underlying55 rfl Try.sizeOf4 rfl) rfl (hl_v (v_load1 Try.isAgg4 rfl (Blk.cell (hO.box 0 rfl) rfl)) rfl (hl_nil (thenQ_n (hw_cond rfl (fun hc_3 => ?_) (fun hc_3 => ?_)))))))))))
 ·replace h := ite_t h hc_3
  refine hw_seq (hw_region (hl_v (v_fieldA Try.underlying55 rfl Try.sizeOf9 rfl) rfl (hl_v (v_load1 Try.isAgg9 rfl (Blk.cell (hO.box 0 rfl) rfl)) rfl (hl_v (v_move rfl) rfl (hl_h (o_lit (g := fByte) (l := [b]) (xs := [.tmp 9]) hO Try.underlying56 Try.sizeOf5 Try.zeroValue5 rfl (evs_cons rfl evs_nil) rfl rfl rfl rfl rfl) rfl ?_)))))
  rintro v_5 H_4 hO
  refine hl_v (v_bytesStr Try.underlying56 Try.underlying5 Try.underlying9 rfl (hO.osl 0 rfl)) rfl ?_
  obtain ⟨hs_6, h⟩ := h
  refine hl_v (v_addS rfl rfl hs_6) rfl (hl_v (v_assign rfl) rfl (hl_nil (thenQ_n (hw_ret (thenQ_r (ret_i _ (ra_t rfl ra_nil) ?_))))))
  exact ⟨_, (x.Out ++ [b]), (hO.inz 2 rfl), h, rfl, (Own.sel (Ls := [own fByte 5 v_5 [b], box b_2 (fGArc.enc x) 55, inZ Z]) (L := L) [] rfl hO)⟩
 ·replace h := ite_f h hc_3
  refine hw_skip (thenQ_n (hw_seq (hw_region (hl_v (v_fieldA Try.underlying55 rfl Try.sizeOf9 rfl) rfl (hl_v (v_load1 Try.isAgg9 rfl (Blk.cell (hO.box 0 rfl) rfl)) rfl (hl_v (v_assign rfl) rfl (hl_nil (thenQ_n (hw_ret (ret_i _ (ra_t rfl ra_nil) ?_))))))))))
  exact ⟨_, x.Out, (hO.inz 1 rfl), h, rfl, (Own.sel (Ls := [box b_2 (fGArc.enc x) 55, inZ Z]) (L := L) [] rfl hO)⟩
theorem twinOut_spec {a0 : GArc} {a1 : UInt8}  {L : List As} (hp : a0.Out.length ≤ 1000000000000) {H : Heap} {Z : Nat → Prop} (hO : Own H Z (L))  : HC Try.prog 28 [.agg (fGArc.enc a0).toArray, .int .u8 (a1.toNat : Int)] H (fun v H' => ∃ (Z' : Nat → Prop) , (∀ a1, Z a1 → Z' a1) ∧ v = str ((fOutB a0 a1)) ∧ Own H' Z' (L)) := by
  refine (twinOut_ok (x := a0) (b := a1) (@twinOut_wp a0 a1 hp) hO).mono ?_
  rintro v H' ⟨Z', r0, hz, hq, hv, hO'⟩
  obtain rfl := hq
  exact ⟨Z', hz, hv, hO'⟩

theorem twinTrim_ok {t : GFst} {v_1 : Value} {v_3 : Value} {v_5 : Value} {Q : GFst → Int → Int → Prop} {H : Heap} {Z : Nat → Prop} {L : List As} (h : wp_twinTrim t Q) (hO : Own H Z (L)) (hf_2 : Fz fGTip.rep L v_1 t.Starts) (hf_4 : Fz fGTip.rep L v_3 t.Ends) (hf_6 : Fz fGArc.rep L v_5 t.Arcs) : HC Try.prog 16 [.agg [.int .i64 t.States, v_1, v_3, v_5].toArray] H (fun v H' => ∃ (Z' : Nat → Prop) (r0 : GFst) (r1 : Int) (r2 : Int) (v_7 : Value) (v_9 : Value) (v_11 : Value), (∀ b, Z b → Z' b) ∧ Q r0 r1 r2 ∧ v = .tuple #[.agg [.int .i64 r0.States, v_7, v_9, v_11].toArray, .int .i64 r1, .int .i64 r2] ∧ Own H' Z' (fz fGTip.rep v_7 r0.Starts :: fz fGTip.rep v_9 r0.Ends :: fz fGArc.rep v_11 r0.Arcs :: L)) := by
 replace hO := hO.inZ
 replace hO := Fz.items [_] hf_2 hO
 replace hO := Fz.items [_, _] hf_4 hO
 replace hO := Fz.items [_, _, _] hf_6 hO
 unfold wp_twinTrim at h
 refine hc_of_hw (N := 63) (rs := [(.cell 2 28), (.tmp 3), (.tmp 4)]) Try.func16 rfl rfl rfl rfl (hw_seq (hw_region (hl_h (o_box (cs := [.int .i64 t.States, v_1, v_3, v_5]) hO rfl rfl) rfl ?_)))
 rintro _ H_13 ⟨b_14, rfl, hO⟩
 refine hl_h (o_alloc (cs := [.int .i64 (0 : Int), .slice none 0 0, .slice none 0 0, .slice none 0 0]) hO Try.zeroValue28 rfl) rfl ?_
 rintro _ H_15 ⟨b_16, rfl, hO⟩
 refine hl_v (v_assign rfl) rfl (hl_v (v_assign rfl) rfl (hl_nil (thenQ_n (hw_seq (hw_region (hl_v (v_loadA Try.isAgg28 Try.sizeOf28 rfl (Blk.at0 (hO.box 1 rfl)) rfl) rfl (hl_h (h_call Try.call11 (evs_cons rfl evs_nil) (trimP_spec (a0 := t) hO (Fz.of (i := 4) rfl) (Fz.of (i := 3) rfl) (Fz.of (i := 2) rfl))) rfl ?_)))))))
 rintro _ H_20 ⟨Z_21, v_17, v_18, v_19, _, rfl, hO⟩
 refine hl_v (v_move rfl) rfl (hl_v (v_extract rfl rfl) rfl (hl_v (v_extract rfl rfl) rfl (hl_s (o_storeA (us := [.int .i64 (((pTrim t).1).States), v_17, v_18, v_19]) hO 4 rfl Try.sizeOf28 rfl rfl rfl rfl (by simp only [List.forall_mem_cons]; exact ⟨rfl, (Sl.one (hO.osl 0 rfl)), (Sl.one (hO.osl 1 rfl)), (Sl.one (hO.osl 2 rfl)), by simp⟩)) ?_)))
 rintro _ H_23 hO
 refine hl_v (v_assign rfl) rfl (hl_nil (thenQ_n (hw_seq (hw_block (hw_seq (hw_region (hl_v (v_move rfl) rfl (hl_v (v_neq rfl rfl) rfl (hl_v (v_assign rfl) rfl (hl_nil (thenQ_n (hw_cond rfl (fun hc_24 => ?_) (fun hc_24 => ?_)))))))))))))
 ·replace h := ite_t h hc_24
  refine hw_seq (hw_region (hl_v (v_buildF (cs := [.int .i64 (0 : Int), .slice none 0 0, .slice none 0 0, .slice none 0 0]) (xs := []) (is := []) rfl evs_nil (fun w => by show _ = _; kernel_rfl)) rfl (hl_v (v_move rfl) rfl (hl_s (o_storeA (us := [.int .i64 (0 : Int), .slice none 0 0, .slice none 0 0, .slice none 0 0]) hO 3 rfl Try.sizeOf28 rfl rfl rfl rfl (by simp only [List.forall_mem_cons]; exact ⟨rfl, rfl, rfl, rfl, by simp⟩)) ?_))))
  rintro _ H_25 hO
  refine hl_v (v_assign rfl) rfl (hl_v (v_assign rfl) rfl (hl_nil (thenQ_n (hw_sub _ (a_c 2 rfl (a_c 3 rfl (a_c 4 rfl a_n))) (hw_ret (blockQ_r (thenQ_r ?_)))))))
  replace hO := Sl.item (Sl.nil (r := fGTip.rep)) hO
  replace hO := Sl.item (Sl.nil (r := fGTip.rep)) hO
  replace hO := Sl.item (Sl.nil (r := fGArc.rep)) hO
  refine ret_i _ (ra_c rfl (fun w hw => run_loadVar_at (cs := [.int .i64 (0 : Int), .slice none 0 0, .slice none 0 0, .slice none 0 0]) Try.isAgg28 Try.sizeOf28 (Blk.at0 (hO.box 6 rfl)) rfl w hw) (ra_t rfl (ra_t rfl ra_nil))) ?_
  exact ⟨_, (⟨(0 : Int), [], [], []⟩ : GFst), 0, (pTrim t).2, .slice none 0 0, .slice none 0 0, .slice none 0 0, (hO.inz 11 rfl), h, rfl, (Own.sel (Ls := [fz fGArc.rep (.slice none 0 0) [], fz fGTip.rep (.slice none 0 0) [], fz fGTip.rep (.slice none 0 0) [], own fGTip 45 v_17 (((pTrim t).1).Starts), own fGTip 45 v_18 (((pTrim t).1).Ends), own fGArc 55 v_19 (((pTrim t).1).Arcs), box b_16 [.int .i64 (0 : Int), .slice none 0 0, .slice none 0 0, .slice none 0 0] 28, box b_14 [.int .i64 (((pTrim t).1).States), v_17, v_18, v_19] 28, fz fGArc.rep v_5 t.Arcs, fz fGTip.rep v_3 t.Ends, fz fGTip.rep v_1 t.Starts, inZ Z]) (L := L) [2, 1, 0] rfl hO)⟩
 ·replace h := ite_f h hc_24
  refine hw_seq (hw_region (hl_v (v_fieldA Try.underlying28 rfl Try.sizeOf3 rfl) rfl (hl_v (v_load1 Try.isAgg3 rfl (Blk.cell (hO.box 4 rfl) rfl)) rfl (hl_v (v_gtr rfl rfl) rfl (hl_v (v_assign rfl) rfl (hl_nil (thenQ_n (hw_sub _ (a_c 1 rfl (a_c 2 rfl (a_c 22 rfl a_n))) (hw_cond rfl (fun hc_26 => ?_) (fun hc_26 => ?_))))))))))
  ·replace h := ite_t h hc_26
   refine hw_seq (hw_region (hl_v (v_buildF (cs := [.int .i64 (0 : Int), .slice none 0 0, .slice none 0 0, .slice none 0 0]) (xs := []) (is := []) rfl evs_nil (fun w => by show _ = _; kernel_rfl)) rfl (hl_s (o_storeA (us := [.int .i64 (0 : Int), .slice none 0 0, .slice none 0 0, .slice none 0 0]) hO 3 rfl Try.sizeOf28 rfl rfl rfl rfl (by simp only [List.forall_mem_cons]; exact ⟨rfl, rfl, rfl, rfl, by simp⟩)) ?_)))
   rintro _ H_27 hO
   refine hl_v (v_assign rfl) rfl (hl_v (v_assign rfl) rfl (hl_nil (thenQ_n (hw_ret (blockQ_r (thenQ_r ?_))))))
   replace hO := Sl.item (Sl.nil (r := fGTip.rep)) hO
   replace hO := Sl.item (Sl.nil (r := fGTip.rep)) hO
   replace hO := Sl.item (Sl.nil (r := fGArc.rep)) hO
   refine ret_i _ (ra_c rfl (fun w hw => run_loadVar_at (cs := [.int .i64 (0 : Int), .slice none 0 0, .slice none 0 0, .slice none 0 0]) Try.isAgg28 Try.sizeOf28 (Blk.at0 (hO.box 6 rfl)) rfl w hw) (ra_t rfl (ra_t rfl ra_nil))) ?_
   exact ⟨_, (⟨(0 : Int), [], [], []⟩ : GFst), 0, 2, .slice none 0 0, .slice none 0 0, .slice none 0 0, (hO.inz 11 rfl), h, rfl, (Own.sel (Ls := [fz fGArc.rep (.slice none 0 0) [], fz fGTip.rep (.slice none 0 0) [], fz fGTip.rep (.slice none 0 0) [], own fGTip 45 v_17 (((pTrim t).1).Starts), own fGTip 45 v_18 (((pTrim t).1).Ends), own fGArc 55 v_19 (((pTrim t).1).Arcs), box b_16 [.int .i64 (0 : Int), .slice none 0 0, .slice none 0 0, .slice none 0 0] 28, box b_14 [.int .i64 (((pTrim t).1).States), v_17, v_18, v_19] 28, fz fGArc.rep v_5 t.Arcs, fz fGTip.rep v_3 t.Ends, fz fGTip.rep v_1 t.Starts, inZ Z]) (L := L) [2, 1, 0] rfl hO)⟩
  ·replace h := ite_f h hc_26
   refine hw_skip (blockQ_n (thenQ_n (hw_seq (hw_region (hl_v (v_assign rfl) rfl (hl_v (v_assign rfl) rfl (hl_nil (thenQ_n (hw_seq (hw_seq (hw_region (hl_v (v_fieldA Try.underlying28 rfl Try.sizeOf25 rfl) rfl (hl_v (v_load1 Try.isAgg25 rfl (Blk.cell (hO.box 4 rfl) rfl)) rfl ?_)))))))))))))
   have hln_28 := Sl.cap (hO.osl 0 rfl)
   refine hl_v (v_lenL rfl Try.underlying25 rfl (hO.osl 0 rfl)) rfl (hl_v (v_move rfl) rfl (hl_nil (thenQ_n (hw_block ?_))))
   obtain ⟨I_29, h, hI_31⟩ := h
   refine hw_lp (fun n' g' H' => ∃ (first : Int) (k : Nat) (Z' : Nat → Prop), n' = (((pTrim t).1).Starts).length - k ∧ g' = [(1, ptr b_14 0), (2, ptr b_16 0), (6, .int .i64 first), (7, .int .i64 0), (28, v_17), (29, .int .i64 ((((pTrim t).1).Starts).length : Int)), (30, .int .i64 (k : Int))] ∧ I_29 first k ∧ k ≤ (((pTrim t).1).Starts).length ∧ Own H' Z' (own fGTip 45 v_17 (((pTrim t).1).Starts) :: own fGTip 45 v_18 (((pTrim t).1).Ends) :: own fGArc 55 v_19 (((pTrim t).1).Arcs) :: box b_16 [.int .i64 (0 : Int), .slice none 0 0, .slice none 0 0, .slice none 0 0] 28 :: box b_14 [.int .i64 (((pTrim t).1).States), v_17, v_18, v_19] 28 :: inZ Z :: L)) _ _ (a_c 1 rfl (a_c 2 rfl (a_c 6 rfl (a_c 7 rfl (a_c 28 rfl (a_c 29 rfl (a_c 30 rfl a_n))))))) ⟨0, 0, _, rfl, rfl, h, by omega, (Own.sel (Ls := [own fGTip 45 v_17 (((pTrim t).1).Starts), own fGTip 45 v_18 (((pTrim t).1).Ends), own fGArc 55 v_19 (((pTrim t).1).Arcs), box b_16 [.int .i64 (0 : Int), .slice none 0 0, .slice none 0 0, .slice none 0 0] 28, box b_14 [.int .i64 (((pTrim t).1).States), v_17, v_18, v_19] 28, fz fGArc.rep v_5 t.Arcs, fz fGTip.rep v_3 t.Ends, fz fGTip.rep v_1 t.Starts, inZ Z]) (L := L) [0, 1, 2, 3, 4, 8] rfl hO)⟩ ?_
   rintro _ _ H_32 ⟨first, k, Z_33, rfl, rfl, h, hb_34, hO⟩
   replace h := hI_31 first k h hb_34
   refine hw_seq (hw_region (hl_v (v_lss rfl rfl) rfl (hl_nil (thenQ_n (hw_seq (hw_cond rfl (fun hc_35 => ?_) (fun hc_35 => ?_)))))))
   ·replace h := ite_t h hc_35
    refine hw_skip (thenQ_n (hw_seq (hw_block (hw_seq (hw_region (hl_v (v_ixL Try.underlying25 Try.sizeOf45 rfl rfl (hO.osl 0 rfl) (by exact ⟨Int.natCast_nonneg _, of_decide_eq_true hc_35⟩)) rfl (hl_v (v_loadFl Try.isAgg45 Try.sizeOf45 rfl (hO.osl 0 rfl) rfl (by exact ⟨Int.natCast_nonneg _, of_decide_eq_true hc_35⟩)) rfl (hl_h (o_alloc (cs := (fGTip.enc (⟨(0 : Int), ([] : List UInt8)⟩ : GTip))) hO Try.zeroValue45 rfl) rfl ?_))))))))
    rintro _ H_36 ⟨b_37, rfl, hO⟩
    refine hl_s (o_storeA (us := (fGTip.enc ((((pTrim t).1).Starts).getD k default))) hO 0 rfl Try.sizeOf45 rfl rfl rfl rfl (by intro u hu; exact (fGTip).one _ u hu)) ?_
    rintro _ H_38 hO
    refine hl_nil (thenQ_n (hw_region (hl_v (v_move rfl) rfl (hl_v (v_fieldA Try.underlying45 rfl Try.sizeOf9 rfl) rfl (hl_v (v_load1 Try.isAgg9 rfl (Blk.cell (hO.box 0 rfl) rfl)) rfl (hl_v (v_lenS rfl Try.underlying9 rfl) rfl (hl_v (v_maxI rfl rfl) rfl (hl_v (v_assign rfl) rfl (hl_nil (blockQ_n (thenQ_n (hw_region (hl_v (v_add rfl rfl (by have hq := of_decide_eq_true hc_35; have hm := hln_28; constructor <;> omega)) rfl (hl_v (v_move rfl) rfl (hl_nil (thenQ_n ?_))))))))))))))))
    exact ⟨_, _, (a_c 1 rfl (a_c 2 rfl (a_c 6 rfl (a_c 7 rfl (a_c 28 rfl (a_c 29 rfl (a_c 30 rfl a_n))))))), ⟨(if ((((((pTrim t).1).Starts).getD k default).Out).length : Int) > first then ((((((pTrim t).1).Starts).getD k default).Out).length : Int) else first), k + 1, _, rfl, rfl, h, (by have hq := of_decide_eq_true hc_35; omega), (Own.sel (Ls := [box b_37 (fGTip.enc ((((pTrim t).1).Starts).getD k default)) 45, own fGTip 45 v_17 (((pTrim t).1).Starts), own fGTip 45 v_18 (((pTrim t).1).Ends), own fGArc 55 v_19 (((pTrim t).1).Arcs), box b_16 [.int .i64 (0 : Int), .slice none 0 0, .slice none 0 0, .slice none 0 0] 28, box b_14 [.int .i64 (((pTrim t).1).States), v_17, v_18, v_19] 28, inZ Z]) (L := L) [1, 2, 3, 4, 5, 6] rfl hO)⟩, (by have hq := of_decide_eq_true hc_35; omega)⟩
   ·replace h := ite_f h hc_35
    refine hw_exit (thenQ_e (thenQ_e (blockQ_hit (thenQ_n (hw_seq (hw_seq (hw_region (hl_v (v_fieldA Try.underlying28 rfl Try.sizeOf26 rfl) rfl (hl_v (v_load1 Try.isAgg26 rfl (Blk.cell (hO.box 4 rfl) rfl)) rfl ?_)))))))))
    have hln_39 := Sl.cap (hO.osl 2 rfl)
    refine hl_v (v_lenL rfl Try.underlying26 rfl (hO.osl 2 rfl)) rfl (hl_v (v_move rfl) rfl (hl_nil (thenQ_n (hw_block ?_))))
    obtain ⟨I_40, h, hI_42⟩ := h
    refine hw_lp (fun n' g' H' => ∃ (most : Int) (k2 : Nat) (Z' : Nat → Prop), n' = (((pTrim t).1).Arcs).length - k2 ∧ g' = [(1, ptr b_14 0), (2, ptr b_16 0), (6, .int .i64 first), (7, .int .i64 most), (41, v_19), (42, .int .i64 ((((pTrim t).1).Arcs).length : Int)), (43, .int .i64 (k2 : Int))] ∧ I_40 most k2 ∧ k2 ≤ (((pTrim t).1).Arcs).length ∧ Own H' Z' (own fGTip 45 v_17 (((pTrim t).1).Starts) :: own fGTip 45 v_18 (((pTrim t).1).Ends) :: own fGArc 55 v_19 (((pTrim t).1).Arcs) :: box b_16 [.int .i64 (0 : Int), .slice none 0 0, .slice none 0 0, .slice none 0 0] 28 :: box b_14 [.int .i64 (((pTrim t).1).States), v_17, v_18, v_19] 28 :: inZ Z :: L)) _ _ (a_c 1 rfl (a_c 2 rfl (a_c 6 rfl (a_c 7 rfl (a_c 41 rfl (a_c 42 rfl (a_c 43 rfl a_n))))))) ⟨0, 0, _, rfl, rfl, h, by omega, hO⟩ ?_
    rintro _ _ H_43 ⟨most, k2, Z_44, rfl, rfl, h, hb_45, hO⟩
    replace h := hI_42 most k2 h hb_45
    refine hw_seq (hw_region (hl_v (v_lss rfl rfl) rfl (hl_nil (thenQ_n (hw_seq (hw_cond rfl (fun hc_46 => ?_) (fun hc_46 => ?_)))))))
    ·replace h := ite_t h hc_46
     refine hw_skip (thenQ_n (hw_seq (hw_block (hw_seq (hw_region (hl_v (v_ixL Try.underlying26 Try.sizeOf55 rfl rfl (hO.osl 2 rfl) (by exact ⟨Int.natCast_nonneg _, of_decide_eq_true hc_46⟩)) rfl (hl_v (v_loadFl Try.isAgg55 Try.sizeOf55 rfl (hO.osl 2 rfl) rfl (by exact ⟨Int.natCast_nonneg _, of_decide_eq_true hc_46⟩)) rfl (hl_h (o_alloc (cs := (fGArc.enc (⟨(0 : Int), (0 : Int), BSet.zero, ([] : List UInt8), false⟩ : GArc))) hO Try.zeroValue55 rfl) rfl ?_))))))))
     rintro _ H_47 ⟨b_48, rfl, hO⟩
     refine hl_s (o_storeA (us := (fGArc.enc ((((pTrim t).1).Arcs).getD k2 default))) hO 0 rfl Try.sizeOf55 rfl rfl rfl rfl (by intro u hu; exact (fGArc).one _ u hu)) ?_
     rintro _ H_49 hO
     refine hl_nil (thenQ_n (hw_region (hl_v (v_move rfl) rfl (hl_v (v_loadA Try.isAgg55 Try.sizeOf55 rfl (Blk.at0 (hO.box 0 rfl)) rfl) rfl ?_))))
     obtain ⟨hs_50, h⟩ := h
     refine hl_h (h_call Try.call28 (evs_cons rfl (evs_cons (show _ = some (.int .u8 0) from rfl) evs_nil)) (twinOut_spec (a0 := ((((pTrim t).1).Arcs).getD k2 default)) (a1 := 0) hs_50 hO)) rfl ?_
     rintro _ H_51 ⟨Z_52, _, rfl, hO⟩
     refine hl_v (v_lenS rfl Try.underlying9 rfl) rfl (hl_v (v_maxI rfl rfl) rfl (hl_v (v_assign rfl) rfl (hl_nil (blockQ_n (thenQ_n (hw_region (hl_v (v_add rfl rfl (by have hq := of_decide_eq_true hc_46; have hm := hln_39; constructor <;> omega)) rfl (hl_v (v_move rfl) rfl (hl_nil (thenQ_n ?_))))))))))
     exact ⟨_, _, (a_c 1 rfl (a_c 2 rfl (a_c 6 rfl (a_c 7 rfl (a_c 41 rfl (a_c 42 rfl (a_c 43 rfl a_n))))))), ⟨(if ((fOutB ((((pTrim t).1).Arcs).getD k2 default) 0).length : Int) > most then ((fOutB ((((pTrim t).1).Arcs).getD k2 default) 0).length : Int) else most), k2 + 1, _, rfl, rfl, h, (by have hq := of_decide_eq_true hc_46; omega), (Own.sel (Ls := [box b_48 (fGArc.enc ((((pTrim t).1).Arcs).getD k2 default)) 55, own fGTip 45 v_17 (((pTrim t).1).Starts), own fGTip 45 v_18 (((pTrim t).1).Ends), own fGArc 55 v_19 (((pTrim t).1).Arcs), box b_16 [.int .i64 (0 : Int), .slice none 0 0, .slice none 0 0, .slice none 0 0] 28, box b_14 [.int .i64 (((pTrim t).1).States), v_17, v_18, v_19] 28, inZ Z]) (L := L) [1, 2, 3, 4, 5, 6] rfl hO)⟩, (by have hq := of_decide_eq_true hc_46; omega)⟩
    ·replace h := ite_f h hc_46
     refine hw_exit (thenQ_e (thenQ_e (blockQ_hit (thenQ_n (hw_seq (hw_held2 11 (fun H' => ∃ Z' : Nat → Prop, Own H' Z' (own fGTip 45 v_17 (((pTrim t).1).Starts) :: own fGTip 45 v_18 (((pTrim t).1).Ends) :: own fGArc 55 v_19 (((pTrim t).1).Arcs) :: box b_14 [.int .i64 (((pTrim t).1).States), v_17, v_18, v_19] 28 :: inZ Z :: L)) (.step 0 false (.step 1 false (.step 2 false (.step 3 false (.step 4 false (.step 5 false (.step 6 false (.step 7 false (.step 8 false (.step 9 false (.step 10 true .done))))))))))) (.step 11 true (.step 12 true .done)) Try.mixed (by kernel_rfl) ⟨_, (Own.sel (Ls := [own fGTip 45 v_17 (((pTrim t).1).Starts), own fGTip 45 v_18 (((pTrim t).1).Ends), own fGArc 55 v_19 (((pTrim t).1).Arcs), box b_16 [.int .i64 (0 : Int), .slice none 0 0, .slice none 0 0, .slice none 0 0] 28, box b_14 [.int .i64 (((pTrim t).1).States), v_17, v_18, v_19] 28, inZ Z]) (L := L) [0, 1, 2, 4, 5] rfl hO)⟩ (hd_v rfl (fun H' hS => by obtain ⟨Z', hO⟩ := hS; exact (v_loadA Try.isAgg28 Try.sizeOf28 rfl (Blk.at0 (hO.box 3 rfl)) rfl)) rfl (hd_v rfl (fun _ _ => (v_fieldA Try.underlying28 rfl Try.sizeOf3 rfl)) rfl (hd_v rfl (fun H' hS => by obtain ⟨Z', hO⟩ := hS; exact (v_load1 Try.isAgg3 rfl (Blk.cell (hO.box 3 rfl) rfl))) rfl (hd_v rfl (fun _ _ => (v_fieldA Try.underlying28 rfl Try.sizeOf3 rfl)) rfl (hd_v rfl (fun H' hS => by obtain ⟨Z', hO⟩ := hS; exact (v_load1 Try.isAgg3 rfl (Blk.cell (hO.box 3 rfl) rfl))) rfl ?_)))))))))))
     obtain ⟨hs_54, h⟩ := h
     refine hd_v rfl (fun _ _ => (v_mul rfl rfl hs_54)) rfl (hd_v rfl (fun _ _ => (v_move rfl)) rfl ?_)
     obtain ⟨hs_55, h⟩ := h
     refine hd_v rfl (fun _ _ => (v_mul rfl rfl hs_55)) rfl (hd_v rfl (fun _ _ => (v_move rfl)) rfl ?_)
     obtain ⟨hs_56, h⟩ := h
     refine hd_v rfl (fun _ _ => (v_add rfl rfl hs_56)) rfl (hd_s (o_storeA (us := [.int .i64 (((pTrim t).1).States), v_17, v_18, v_19]) hO 3 rfl Try.sizeOf28 rfl rfl rfl rfl (by simp only [List.forall_mem_cons]; exact ⟨rfl, (Sl.one (hO.osl 0 rfl)), (Sl.one (hO.osl 1 rfl)), (Sl.one (hO.osl 2 rfl)), by simp⟩)) (by rintro _ H_57 hO; exact ⟨_, (Own.sel (Ls := [own fGTip 45 v_17 (((pTrim t).1).Starts), own fGTip 45 v_18 (((pTrim t).1).Ends), own fGArc 55 v_19 (((pTrim t).1).Arcs), box b_16 [.int .i64 (((pTrim t).1).States), v_17, v_18, v_19] 28, box b_14 [.int .i64 (((pTrim t).1).States), v_17, v_18, v_19] 28, inZ Z]) (L := L) [0, 1, 2, 4, 5] rfl hO)⟩) ?_)
     rintro _ H_57 hO
     refine hd_nil (hd_h (OpV.toH (v_assign rfl)) (fun _ _ hR => trivial) rfl ?_)
     rintro vv HH ⟨hvv, hHH⟩
     obtain rfl := hvv.symm
     obtain rfl := hHH.symm
     refine hd_h (OpV.toH (v_assign rfl)) (fun _ _ hR => trivial) rfl ?_
     rintro vv HH ⟨hvv, hHH⟩
     obtain rfl := hvv.symm
     obtain rfl := hHH.symm
     refine hd_nil (thenQ_n (hw_ret ?_))
     obtain ⟨Z_58, _, hO⟩ := hO.freeze (i := 0) rfl
     obtain ⟨Z_59, _, hO⟩ := hO.freeze (i := 1) rfl
     obtain ⟨Z_60, _, hO⟩ := hO.freeze (i := 2) rfl
     replace hO : Own H_57 Z_60 (fz fGTip.rep v_17 (((pTrim t).1).Starts) :: fz fGTip.rep v_18 (((pTrim t).1).Ends) :: fz fGArc.rep v_19 (((pTrim t).1).Arcs) :: box b_16 [.int .i64 (((pTrim t).1).States), v_17, v_18, v_19] 28 :: box b_14 [.int .i64 (((pTrim t).1).States), v_17, v_18, v_19] 28 :: inZ Z :: L) := hO
     refine ret_i _ (ra_c rfl (fun w hw => run_loadVar_at (cs := [.int .i64 (((pTrim t).1).States), v_17, v_18, v_19]) Try.isAgg28 Try.sizeOf28 (Blk.at0 (hO.box 3 rfl)) rfl w hw) (ra_t rfl (ra_t rfl ra_nil))) ?_
     exact ⟨_, ((pTrim t).1), (((((pTrim t).1).States * ((pTrim t).1).States) * most) + first), 0, v_17, v_18, v_19, (hO.inz 5 rfl), h, rfl, (Own.sel (Ls := [fz fGTip.rep v_17 (((pTrim t).1).Starts), fz fGTip.rep v_18 (((pTrim t).1).Ends), fz fGArc.rep v_19 (((pTrim t).1).Arcs), box b_16 [.int .i64 (((pTrim t).1).States), v_17, v_18, v_19] 28, box b_14 [.int .i64 (((pTrim t).1).States), v_17, v_18, v_19] 28, inZ Z]) (L := L) [0, 1, 2] rfl hO)⟩
theorem twinTrim_spec {a0 : GFst} {v_1 : Value} {v_3 : Value} {v_5 : Value} {L : List As} {H : Heap} {Z : Nat → Prop} (hO : Own H Z (L)) (hf_2 : Fz fGTip.rep L v_1 a0.Starts) (hf_4 : Fz fGTip.rep L v_3 a0.Ends) (hf_6 : Fz fGArc.rep L v_5 a0.Arcs) : HC Try.prog 16 [.agg [.int .i64 a0.States, v_1, v_3, v_5].toArray] H (fun v H' => ∃ (Z' : Nat → Prop) (v_7 : Value) (v_9 : Value) (v_11 : Value), (∀ b, Z b → Z' b) ∧ v = .tuple #[.agg [.int .i64 ((tTrim a0).1).States, v_7, v_9, v_11].toArray, .int .i64 ((tTrim a0).2.1), .int .i64 ((tTrim a0).2.2)] ∧ Own H' Z' (fz fGTip.rep v_7 ((tTrim a0).1).Starts :: fz fGTip.rep v_9 ((tTrim a0).1).Ends :: fz fGArc.rep v_11 ((tTrim a0).1).Arcs :: L)) := by
  refine (twinTrim_ok (t := a0) (@twinTrim_wp a0) hO hf_2 hf_4 hf_6).mono ?_
  rintro v H' ⟨Z', r0, r1, r2, v_7, v_9, v_11, hz, hq, hv, hO'⟩
  obtain ⟨rfl, rfl, rfl⟩ := hq
  exact ⟨Z', v_7, v_9, v_11, hz, hv, hO'⟩

theorem twinBound_ok {t : GFst} {v_1 : Value} {v_3 : Value} {v_5 : Value} {Q : Int → Int → Prop} {H : Heap} {Z : Nat → Prop} {L : List As} (h : wp_twinBound t Q) (hO : Own H Z (L)) (hf_2 : Fz fGTip.rep L v_1 t.Starts) (hf_4 : Fz fGTip.rep L v_3 t.Ends) (hf_6 : Fz fGArc.rep L v_5 t.Arcs) : HC Try.prog 15 [.agg [.int .i64 t.States, v_1, v_3, v_5].toArray] H (fun v H' => ∃ (Z' : Nat → Prop) (r0 : Int) (r1 : Int) , (∀ b, Z b → Z' b) ∧ Q r0 r1 ∧ v = .tuple #[.int .i64 r0, .int .i64 r1] ∧ Own H' Z' (L)) := by
 replace hO := hO.inZ
 replace hO := Fz.items [_] hf_2 hO
 replace hO := Fz.items [_, _] hf_4 hO
 replace hO := Fz.items [_, _, _] hf_6 hO
 unfold wp_twinBound at h
 refine hc_of_hw (N := 15) (rs := [(.tmp 2), (.tmp 3)]) Try.func15 rfl rfl rfl rfl (hw_seq (hw_region (hl_h (o_box (cs := [.int .i64 t.States, v_1, v_3, v_5]) hO rfl rfl) rfl ?_)))
 rintro _ H_7 ⟨b_8, rfl, hO⟩
 refine hl_v (v_assign rfl) rfl (hl_v (v_assign rfl) rfl (hl_nil (thenQ_n (hw_seq (hw_region (hl_v (v_loadA Try.isAgg28 Try.sizeOf28 rfl (Blk.at0 (hO.box 0 rfl)) rfl) rfl (hl_h (h_call Try.call16 (evs_cons rfl evs_nil) (twinTrim_spec (a0 := t) hO (Fz.of (i := 3) rfl) (Fz.of (i := 2) rfl) (Fz.of (i := 1) rfl))) rfl ?_)))))))
 rintro _ H_15 ⟨Z_16, v_9, v_11, v_13, _, rfl, hO⟩
 refine hl_v (v_move rfl) rfl (hl_v (v_extract rfl rfl) rfl (hl_v (v_extract rfl rfl) rfl (hl_v (v_extract rfl rfl) rfl (hl_h (o_alloc (cs := [.int .i64 (0 : Int), .slice none 0 0, .slice none 0 0, .slice none 0 0]) hO Try.zeroValue28 rfl) rfl ?_))))
 rintro _ H_18 ⟨b_19, rfl, hO⟩
 refine hl_s (o_storeA (us := [.int .i64 (((tTrim t).1).States), v_9, v_11, v_13]) hO 0 rfl Try.sizeOf28 rfl rfl rfl rfl (by simp only [List.forall_mem_cons]; exact ⟨rfl, (Sl.one (hO.fsl 1 rfl)), (Sl.one (hO.fsl 2 rfl)), (Sl.one (hO.fsl 3 rfl)), by simp⟩)) ?_
 rintro _ H_20 hO
 refine hl_v (v_assign rfl) rfl (hl_v (v_assign rfl) rfl (hl_nil (thenQ_n (hw_seq (hw_region (hl_v (v_move rfl) rfl (hl_v (v_move rfl) rfl (hl_v (v_assign rfl) rfl (hl_v (v_assign rfl) rfl (hl_nil (thenQ_n (hw_sub _ (a_c 2 rfl (a_c 3 rfl a_n)) (hw_ret (ret_i _ (ra_t rfl (ra_t rfl ra_nil)) ?_))))))))))))))
 exact ⟨_, (tTrim t).2.1, (tTrim t).2.2, (hO.inz 8 rfl), h, rfl, (Own.sel (Ls := [box b_19 [.int .i64 (((tTrim t).1).States), v_9, v_11, v_13] 28, fz fGTip.rep v_9 (((tTrim t).1).Starts), fz fGTip.rep v_11 (((tTrim t).1).Ends), fz fGArc.rep v_13 (((tTrim t).1).Arcs), box b_8 [.int .i64 t.States, v_1, v_3, v_5] 28, fz fGArc.rep v_5 t.Arcs, fz fGTip.rep v_3 t.Ends, fz fGTip.rep v_1 t.Starts, inZ Z]) (L := L) [] rfl hO)⟩
theorem twinBound_spec {a0 : GFst} {v_1 : Value} {v_3 : Value} {v_5 : Value} {L : List As} {H : Heap} {Z : Nat → Prop} (hO : Own H Z (L)) (hf_2 : Fz fGTip.rep L v_1 a0.Starts) (hf_4 : Fz fGTip.rep L v_3 a0.Ends) (hf_6 : Fz fGArc.rep L v_5 a0.Arcs) : HC Try.prog 15 [.agg [.int .i64 a0.States, v_1, v_3, v_5].toArray] H (fun v H' => ∃ (Z' : Nat → Prop) , (∀ b, Z b → Z' b) ∧ v = .tuple #[.int .i64 ((tBnd a0).1), .int .i64 ((tBnd a0).2)] ∧ Own H' Z' (L)) := by
  refine (twinBound_ok (t := a0) (@twinBound_wp a0) hO hf_2 hf_4 hf_6).mono ?_
  rintro v H' ⟨Z', r0, r1, hz, hq, hv, hO'⟩
  obtain ⟨rfl, rfl⟩ := hq
  exact ⟨Z', hz, hv, hO'⟩

theorem twinNext1_ok {c0 : GFst} {c1 : Gtwin_lag} {v_3 : Value} {v_5 : Value} {v_7 : Value} {b_2 : Nat} {b_10 : Nat} {X : Nat → Gtwin_lag → Prop} {Q : Nat → Prop} {lab_1 : Nat} {J : Nat → As} {Jx : As} {L : List As} (hY : ∀ k x, X k x → ∀ (F : List As) Z G, Own G Z (F ++ J k :: L) → HY Try.prog lab_1 ((fun x => [.agg (fGtwin_lag.enc x).toArray]) x) G (fun v G' => ∃ b Z', v = .bool b ∧ Own G' Z' (F ++ (if b then J (k + 1) else Jx) :: L))) (h : wp_twinNext1 c0 c1 X Q) {H : Heap} {Z : Nat → Prop} (hO : Own H Z (J 0 :: L)) (hf_4 : Fz fGTip.rep L v_3 c0.Starts) (hf_6 : Fz fGTip.rep L v_5 c0.Ends) (hf_8 : Fz fGArc.rep L v_7 c0.Arcs) (hb_9 : Bx L b_2 [.int .i64 c0.States, v_3, v_5, v_7] 28) (hb_11 : Bx L b_10 (fGtwin_lag.enc c1) 42) : HC Try.prog 30 [.func (.yield lab_1) #[] #[], ptr b_2 0, ptr b_10 0] H (fun _ G => (∃ k, Q k ∧ ∃ Z', Own G Z' (J k :: L)) ∨ ∃ Z', Own G Z' (Jx :: L)) := by
 replace hO := hO.inZ
 replace hO := Fz.items [_, _] hf_4 hO
 replace hO := Fz.items [_, _, _] hf_6 hO
 replace hO := Fz.items [_, _, _, _] hf_8 hO
 unfold wp_twinNext1 at h
 refine hc_of_hw (N := 83) (rs := []) Try.func30 rfl rfl rfl rfl (hw_seq (hw_region (hl_v (v_fieldA Try.underlying28 rfl Try.sizeOf26 rfl) rfl (hl_v (v_load1 Try.isAgg26 rfl (Blk.cell (hb_9 _ _ (Own.tails [_, _, _, _, _] hO)) rfl)) rfl ?_))))
 have hln_12 := Sl.cap (hO.fsl 0 rfl)
 refine hl_v (v_lenL rfl Try.underlying26 rfl (hO.fsl 0 rfl)) rfl (hl_v (v_move rfl) rfl (hl_nil (thenQ_n (hw_block ?_))))
 obtain ⟨I_13, h, hI_15⟩ := h
 refine hw_lp (fun n' g' H' => ∃ (k : Nat) (y : Nat) (Z' : Nat → Prop), n' = c0.Arcs.length - k ∧ g' = [(0, .func (.yield lab_1) #[] #[]), (1, ptr b_2 0), (2, ptr b_10 0), (12, v_7), (13, .int .i64 (c0.Arcs.length : Int)), (14, .int .i64 (k : Int))] ∧ I_13 k y ∧ k ≤ c0.Arcs.length ∧ Own H' Z' (fz fGArc.rep v_7 c0.Arcs :: fz fGTip.rep v_5 c0.Ends :: fz fGTip.rep v_3 c0.Starts :: inZ Z :: J y :: L)) _ _ (a_c 0 rfl (a_c 1 rfl (a_c 2 rfl (a_c 12 rfl (a_c 13 rfl (a_c 14 rfl a_n)))))) ⟨0, 0, _, rfl, rfl, h, by omega, hO⟩ ?_
 rintro _ _ H_16 ⟨k, y, Z_17, rfl, rfl, h, hb_18, hO⟩
 replace h := hI_15 k y h hb_18
 refine hw_seq (hw_region (hl_v (v_lss rfl rfl) rfl (hl_nil (thenQ_n (hw_seq (hw_cond rfl (fun hc_19 => ?_) (fun hc_19 => ?_)))))))
 ·replace h := ite_t h hc_19
  refine hw_skip (thenQ_n (hw_seq (hw_block (hw_seq (hw_region (hl_v (v_ixL Try.underlying26 Try.sizeOf55 rfl rfl (hO.fsl 0 rfl) (by exact ⟨Int.natCast_nonneg _, of_decide_eq_true hc_19⟩)) rfl (hl_v (v_loadFl Try.isAgg55 Try.sizeOf55 rfl (hO.fsl 0 rfl) rfl (by exact ⟨Int.natCast_nonneg _, of_decide_eq_true hc_19⟩)) rfl (hl_h (o_alloc (cs := (fGArc.enc (⟨(0 : Int), (0 : Int), BSet.zero, ([] : List UInt8), false⟩ : GArc))) hO Try.zeroValue55 rfl) rfl ?_))))))))
  rintro _ H_20 ⟨b_21, rfl, hO⟩
  refine hl_s (o_storeA (us := (fGArc.enc (c0.Arcs.getD k default))) hO 0 rfl Try.sizeOf55 rfl rfl rfl rfl (by intro u hu; exact (fGArc).one _ u hu)) ?_
  rintro _ H_22 hO
  refine hl_nil (thenQ_n (hw_seq (hw_region (hl_v (v_fieldA Try.underlying28 rfl Try.sizeOf26 rfl) rfl (hl_v (v_load1 Try.isAgg26 rfl (Blk.cell (hb_9 _ _ (Own.tails [_, _, _, _, _, _] hO)) rfl)) rfl (hl_v (v_lenL rfl Try.underlying26 rfl (hO.fsl 1 rfl)) rfl (hl_v (v_move rfl) rfl (hl_nil (thenQ_n (hw_block ?_))))))))))
  obtain ⟨I_23, h, hI_25⟩ := h
  refine hw_lp (fun n' g' H' => ∃ (k2 : Nat) (y2 : Nat) (Z' : Nat → Prop), n' = c0.Arcs.length - k2 ∧ g' = [(0, .func (.yield lab_1) #[] #[]), (1, ptr b_2 0), (2, ptr b_10 0), (5, ptr b_21 0), (12, v_7), (13, .int .i64 (c0.Arcs.length : Int)), (14, .int .i64 (k : Int)), (19, v_7), (20, .int .i64 (c0.Arcs.length : Int)), (21, .int .i64 (k2 : Int))] ∧ I_23 k2 y2 ∧ k2 ≤ c0.Arcs.length ∧ Own H' Z' (box b_21 (fGArc.enc (c0.Arcs.getD k default)) 55 :: fz fGArc.rep v_7 c0.Arcs :: fz fGTip.rep v_5 c0.Ends :: fz fGTip.rep v_3 c0.Starts :: inZ Z :: J y2 :: L)) _ _ (a_c 0 rfl (a_c 1 rfl (a_c 2 rfl (a_c 5 rfl (a_c 12 rfl (a_c 13 rfl (a_c 14 rfl (a_c 19 rfl (a_c 20 rfl (a_c 21 rfl a_n)))))))))) ⟨0, y, _, rfl, rfl, h, by omega, hO⟩ ?_
  rintro _ _ H_26 ⟨k2, y2, Z_27, rfl, rfl, h, hb_28, hO⟩
  replace h := hI_25 k2 y2 h hb_28
  refine hw_seq (hw_region (hl_v (v_lss rfl rfl) rfl (hl_nil (thenQ_n (hw_seq (hw_cond rfl (fun hc_29 => ?_) (fun hc_29 => ?_)))))))
  ·replace h := ite_t h hc_29
   refine hw_skip (thenQ_n (hw_seq (hw_block (hw_seq (hw_region (hl_v (v_ixL Try.underlying26 Try.sizeOf55 rfl rfl (hO.fsl 1 rfl) (by exact ⟨Int.natCast_nonneg _, of_decide_eq_true hc_29⟩)) rfl (hl_v (v_loadFl Try.isAgg55 Try.sizeOf55 rfl (hO.fsl 1 rfl) rfl (by exact ⟨Int.natCast_nonneg _, of_decide_eq_true hc_29⟩)) rfl (hl_h (o_alloc (cs := (fGArc.enc (⟨(0 : Int), (0 : Int), BSet.zero, ([] : List UInt8), false⟩ : GArc))) hO Try.zeroValue55 rfl) rfl ?_))))))))
   rintro _ H_30 ⟨b_31, rfl, hO⟩
   refine hl_s (o_storeA (us := (fGArc.enc (c0.Arcs.getD k2 default))) hO 0 rfl Try.sizeOf55 rfl rfl rfl rfl (by intro u hu; exact (fGArc).one _ u hu)) ?_
   rintro _ H_32 hO
   refine hl_nil (thenQ_n (hw_seq (hw_seq (hw_region (hl_v (v_fieldA Try.underlying55 rfl Try.sizeOf3 rfl) rfl (hl_v (v_load1 Try.isAgg3 rfl (Blk.cell (hO.box 1 rfl) rfl)) rfl (hl_v (v_fieldA Try.underlying42 rfl Try.sizeOf3 rfl) rfl (hl_v (v_load1 Try.isAgg3 rfl (Blk.cell (hb_11 _ _ (Own.tails [_, _, _, _, _, _, _] hO)) rfl)) rfl (hl_v (v_neq rfl rfl) rfl (hl_v (v_move rfl) rfl (hl_g rfl rfl (fun hg => (v_fieldA Try.underlying55 rfl Try.sizeOf3 rfl)) rfl (hl_g rfl rfl (fun hg => (v_load1 Try.isAgg3 (gv_ok rfl hg) (Blk.cell (hO.box 0 rfl) rfl))) rfl (hl_g rfl rfl (fun hg => (v_fieldA Try.underlying42 rfl Try.sizeOf3 rfl)) rfl (hl_g rfl rfl (fun hg => (v_load1 Try.isAgg3 (gv_ok rfl hg) (Blk.cell (hb_11 _ _ (Own.tails [_, _, _, _, _, _, _] hO)) rfl))) rfl (hl_g rfl rfl (fun hg => (v_neq (gv_ok rfl hg) (gv_ok rfl hg))) rfl (hl_v (v_or rfl rfl) rfl (hl_nil (thenQ_n (hw_sub _ (a_c 0 rfl (a_c 1 rfl (a_c 2 rfl (a_c 5 rfl (a_c 7 rfl (a_c 12 rfl (a_c 13 rfl (a_c 14 rfl (a_c 19 rfl (a_c 20 rfl (a_c 21 rfl (a_c 36 rfl a_n)))))))))))) (hw_cond rfl (fun hc_33 => ?_) (fun hc_33 => ?_)))))))))))))))))))))
   ·replace h := ite_t h hc_33
    refine hw_exit (thenQ_e (blockQ_hit (thenQ_n (hw_region (hl_v (v_add rfl rfl (by have hq := of_decide_eq_true hc_29; have hm := hln_12; constructor <;> omega)) rfl (hl_v (v_move rfl) rfl (hl_nil (thenQ_n ?_))))))))
    exact ⟨_, _, (a_c 0 rfl (a_c 1 rfl (a_c 2 rfl (a_c 5 rfl (a_c 12 rfl (a_c 13 rfl (a_c 14 rfl (a_c 19 rfl (a_c 20 rfl (a_c 21 rfl a_n)))))))))), ⟨k2 + 1, y2, _, rfl, rfl, h, (by have hq := of_decide_eq_true hc_29; omega), (Own.sel (Ls := [box b_31 (fGArc.enc (c0.Arcs.getD k2 default)) 55, box b_21 (fGArc.enc (c0.Arcs.getD k default)) 55, fz fGArc.rep v_7 c0.Arcs, fz fGTip.rep v_5 c0.Ends, fz fGTip.rep v_3 c0.Starts, inZ Z, J y2]) (L := L) [1, 2, 3, 4, 5, 6] rfl hO)⟩, (by have hq := of_decide_eq_true hc_29; omega)⟩
   ·replace h := ite_f h hc_33
    refine hw_skip (thenQ_n (hw_seq (hw_region (hl_v (v_fieldA Try.underlying55 rfl Try.sizeOf52 rfl) rfl (hl_v (v_loadA (cs := (sw ((c0.Arcs.getD k default).Set))) Try.isAgg52 Try.sizeOf52 rfl (Blk.sub (n := 4) (hO.box 1 rfl) rfl) rfl) rfl (hl_v (v_fieldA Try.underlying55 rfl Try.sizeOf52 rfl) rfl (hl_v (v_loadA (cs := (sw ((c0.Arcs.getD k2 default).Set))) Try.isAgg52 Try.sizeOf52 rfl (Blk.sub (n := 4) (hO.box 0 rfl) rfl) rfl) rfl (hl_h (h_call Try.call32 (evs_cons rfl (evs_cons rfl evs_nil)) (setBoth_spec (a0 := (c0.Arcs.getD k default).Set) (a1 := (c0.Arcs.getD k2 default).Set) hO)) rfl ?_))))))))
    rintro _ H_34 ⟨Z_35, _, rfl, hO⟩
    refine hl_h (h_call Try.call31 (evs_cons rfl evs_nil) (setRows_spec (a0 := (BSet.band ((c0.Arcs.getD k default).Set) ((c0.Arcs.getD k2 default).Set))) hO)) rfl ?_
    rintro v_37 H_38 ⟨Z_39, _, _, rfl, hO⟩
    have hln_41 := Sl.cap (hO.osl 0 rfl)
    refine hl_v (v_lenL rfl Try.underlying72 rfl (hO.osl 0 rfl)) rfl (hl_v (v_move rfl) rfl (hl_nil (thenQ_n (hw_sub _ (a_c 0 rfl (a_c 1 rfl (a_c 2 rfl (a_c 5 rfl (a_c 7 rfl (a_c 12 rfl (a_c 13 rfl (a_c 14 rfl (a_c 19 rfl (a_c 20 rfl (a_c 21 rfl (a_c 42 rfl (a_c 43 rfl (a_c 44 rfl a_n)))))))))))))) (hw_block ?_)))))
    obtain ⟨I_42, h, hI_44⟩ := h
    refine hw_lp (fun n' g' H' => ∃ (k3 : Nat) (y3 : Nat) (Z' : Nat → Prop), n' = ((BSet.band ((c0.Arcs.getD k default).Set) ((c0.Arcs.getD k2 default).Set)).rows).length - k3 ∧ g' = [(0, .func (.yield lab_1) #[] #[]), (1, ptr b_2 0), (2, ptr b_10 0), (5, ptr b_21 0), (7, ptr b_31 0), (12, v_7), (13, .int .i64 (c0.Arcs.length : Int)), (14, .int .i64 (k : Int)), (19, v_7), (20, .int .i64 (c0.Arcs.length : Int)), (21, .int .i64 (k2 : Int)), (42, v_37), (43, .int .i64 (((BSet.band ((c0.Arcs.getD k default).Set) ((c0.Arcs.getD k2 default).Set)).rows).length : Int)), (44, .int .i64 (k3 : Int))] ∧ I_42 k3 y3 ∧ k3 ≤ ((BSet.band ((c0.Arcs.getD k default).Set) ((c0.Arcs.getD k2 default).Set)).rows).length ∧ Own H' Z' (own fPair 75 v_37 ((BSet.band ((c0.Arcs.getD k default).Set) ((c0.Arcs.getD k2 default).Set)).rows) :: box b_31 (fGArc.enc (c0.Arcs.getD k2 default)) 55 :: box b_21 (fGArc.enc (c0.Arcs.getD k default)) 55 :: fz fGArc.rep v_7 c0.Arcs :: fz fGTip.rep v_5 c0.Ends :: fz fGTip.rep v_3 c0.Starts :: inZ Z :: J y3 :: L)) _ _ (a_c 0 rfl (a_c 1 rfl (a_c 2 rfl (a_c 5 rfl (a_c 7 rfl (a_c 12 rfl (a_c 13 rfl (a_c 14 rfl (a_c 19 rfl (a_c 20 rfl (a_c 21 rfl (a_c 42 rfl (a_c 43 rfl (a_c 44 rfl a_n)))))))))))))) ⟨0, y2, _, rfl, rfl, h, by omega, hO⟩ ?_
    rintro _ _ H_45 ⟨k3, y3, Z_46, rfl, rfl, h, hb_47, hO⟩
    replace h := hI_44 k3 y3 h hb_47
    refine hw_seq (hw_region (hl_v (v_lss rfl rfl) rfl (hl_nil (thenQ_n (hw_sub _ (a_c 0 rfl (a_c 1 rfl (a_c 2 rfl (a_c 5 rfl (a_c 7 rfl (a_c 12 rfl (a_c 13 rfl (a_c 14 rfl (a_c 19 rfl (a_c 20 rfl (a_c 21 rfl (a_c 42 rfl (a_c 43 rfl (a_c 44 rfl (a_c 45 rfl a_n))))))))))))))) (hw_seq (hw_cond rfl (fun hc_48 => ?_) (fun hc_48 => ?_))))))))
    ·replace h := ite_t h hc_48
     refine hw_skip (thenQ_n (hw_seq (hw_block (hw_seq (hw_region (hl_v (v_ixL Try.underlying72 Try.sizeOf75 rfl rfl (hO.osl 0 rfl) (by exact ⟨Int.natCast_nonneg _, of_decide_eq_true hc_48⟩)) rfl (hl_v (v_loadFl Try.isAgg75 Try.sizeOf75 rfl (hO.osl 0 rfl) rfl (by exact ⟨Int.natCast_nonneg _, of_decide_eq_true hc_48⟩)) rfl (hl_h (o_alloc (cs := (fPair.enc ((0 : UInt8), (0 : UInt8)))) hO Try.zeroValue75 rfl) rfl ?_))))))))
     rintro _ H_49 ⟨b_50, rfl, hO⟩
     refine hl_s (o_storeA (us := (fPair.enc (((BSet.band ((c0.Arcs.getD k default).Set) ((c0.Arcs.getD k2 default).Set)).rows).getD k3 default))) hO 0 rfl Try.sizeOf75 rfl rfl rfl rfl (by intro u hu; exact (fPair).one _ u hu)) ?_
     rintro _ H_51 hO
     refine hl_nil (thenQ_n (hw_sub _ (a_c 0 rfl (a_c 1 rfl (a_c 2 rfl (a_c 5 rfl (a_c 7 rfl (a_c 9 rfl (a_c 12 rfl (a_c 13 rfl (a_c 14 rfl (a_c 19 rfl (a_c 20 rfl (a_c 21 rfl (a_c 42 rfl (a_c 43 rfl (a_c 44 rfl a_n))))))))))))))) (hw_seq (hw_region (hl_v (v_ixA Try.underlying75 Try.sizeOf5 rfl rfl (by decide)) rfl (hl_v (v_load1 Try.isAgg5 rfl (Blk.cell (hO.box 0 rfl) rfl)) rfl (hl_v (v_conv_id (by rw [Try.underlying5]; rfl) Try.underlying3 rfl (u8_i64 _)) rfl (hl_v (v_assign rfl) rfl (hl_nil (thenQ_n (hw_sub _ (a_c 0 rfl (a_c 1 rfl (a_c 2 rfl (a_c 5 rfl (a_c 7 rfl (a_c 9 rfl (a_c 10 rfl (a_c 12 rfl (a_c 13 rfl (a_c 14 rfl (a_c 19 rfl (a_c 20 rfl (a_c 21 rfl (a_c 42 rfl (a_c 43 rfl (a_c 44 rfl a_n)))))))))))))))) (hw_block ?_))))))))))))
     obtain ⟨I_52, μ_53, h, hI_54⟩ := h
     refine hw_lp (fun n' g' H' => ∃ (b : Int) (y4 : Nat) (Z' : Nat → Prop), n' = μ_53 b y4 ∧ g' = [(0, .func (.yield lab_1) #[] #[]), (1, ptr b_2 0), (2, ptr b_10 0), (5, ptr b_21 0), (7, ptr b_31 0), (9, ptr b_50 0), (10, .int .i64 b), (12, v_7), (13, .int .i64 (c0.Arcs.length : Int)), (14, .int .i64 (k : Int)), (19, v_7), (20, .int .i64 (c0.Arcs.length : Int)), (21, .int .i64 (k2 : Int)), (42, v_37), (43, .int .i64 (((BSet.band ((c0.Arcs.getD k default).Set) ((c0.Arcs.getD k2 default).Set)).rows).length : Int)), (44, .int .i64 (k3 : Int))] ∧ I_52 b y4 ∧ Own H' Z' (box b_50 (fPair.enc (((BSet.band ((c0.Arcs.getD k default).Set) ((c0.Arcs.getD k2 default).Set)).rows).getD k3 default)) 75 :: own fPair 75 v_37 ((BSet.band ((c0.Arcs.getD k default).Set) ((c0.Arcs.getD k2 default).Set)).rows) :: box b_31 (fGArc.enc (c0.Arcs.getD k2 default)) 55 :: box b_21 (fGArc.enc (c0.Arcs.getD k default)) 55 :: fz fGArc.rep v_7 c0.Arcs :: fz fGTip.rep v_5 c0.Ends :: fz fGTip.rep v_3 c0.Starts :: inZ Z :: J y4 :: L)) _ _ (a_c 0 rfl (a_c 1 rfl (a_c 2 rfl (a_c 5 rfl (a_c 7 rfl (a_c 9 rfl (a_c 10 rfl (a_c 12 rfl (a_c 13 rfl (a_c 14 rfl (a_c 19 rfl (a_c 20 rfl (a_c 21 rfl (a_c 42 rfl (a_c 43 rfl (a_c 44 rfl a_n)))))))))))))))) ⟨(((((BSet.band ((c0.Arcs.getD k default).Set) ((c0.Arcs.getD k2 default).Set)).rows).getD k3 default).1).toNat : Int), y3, _, rfl, rfl, h, hO⟩ ?_
     rintro _ _ H_55 ⟨b, y4, Z_56, rfl, rfl, h, hO⟩
     replace h := hI_54 b y4 h
     refine hw_seq (hw_seq (hw_region (hl_v (v_move rfl) rfl (hl_v (v_ixA Try.underlying75 Try.sizeOf5 rfl rfl (by decide)) rfl (hl_v (v_load1 Try.isAgg5 rfl (Blk.cell (hO.box 0 rfl) rfl)) rfl (hl_v (v_conv_id (by rw [Try.underlying5]; rfl) Try.underlying3 rfl (u8_i64 _)) rfl (hl_v (v_leq rfl rfl) rfl (hl_nil (thenQ_n (hw_sub _ (a_c 0 rfl (a_c 1 rfl (a_c 2 rfl (a_c 5 rfl (a_c 7 rfl (a_c 9 rfl (a_c 10 rfl (a_c 12 rfl (a_c 13 rfl (a_c 14 rfl (a_c 19 rfl (a_c 20 rfl (a_c 21 rfl (a_c 42 rfl (a_c 43 rfl (a_c 44 rfl (a_c 55 rfl a_n))))))))))))))))) (hw_cond rfl (fun hc_58 => ?_) (fun hc_58 => ?_))))))))))))
     ·replace h := ite_t h hc_58
      refine hw_skip (thenQ_n (hw_seq (hw_block (hw_seq (hw_held (fun H' => ∃ Z' : Nat → Prop, Own H' Z' (box b_50 (fPair.enc (((BSet.band ((c0.Arcs.getD k default).Set) ((c0.Arcs.getD k2 default).Set)).rows).getD k3 default)) 75 :: own fPair 75 v_37 ((BSet.band ((c0.Arcs.getD k default).Set) ((c0.Arcs.getD k2 default).Set)).rows) :: box b_31 (fGArc.enc (c0.Arcs.getD k2 default)) 55 :: box b_21 (fGArc.enc (c0.Arcs.getD k default)) 55 :: fz fGArc.rep v_7 c0.Arcs :: fz fGTip.rep v_5 c0.Ends :: fz fGTip.rep v_3 c0.Starts :: inZ Z :: L)) (.step 0 false (.step 1 false (.step 2 false (.step 3 false (.step 4 false (.step 5 false (.step 6 false (.step 7 false (.step 8 false (.step 9 false (.step 12 false (.step 13 false (.step 14 false (.step 15 false (.step 16 false (.step 10 true (.step 11 false (.step 17 true (.step 18 false (.step 19 true (.step 20 true (.step 21 false .done)))))))))))))))))))))) Try.mixed (by kernel_rfl) ⟨_, (Own.sel (Ls := [box b_50 (fPair.enc (((BSet.band ((c0.Arcs.getD k default).Set) ((c0.Arcs.getD k2 default).Set)).rows).getD k3 default)) 75, own fPair 75 v_37 ((BSet.band ((c0.Arcs.getD k default).Set) ((c0.Arcs.getD k2 default).Set)).rows), box b_31 (fGArc.enc (c0.Arcs.getD k2 default)) 55, box b_21 (fGArc.enc (c0.Arcs.getD k default)) 55, fz fGArc.rep v_7 c0.Arcs, fz fGTip.rep v_5 c0.Ends, fz fGTip.rep v_3 c0.Starts, inZ Z, J y4]) (L := L) [0, 1, 2, 3, 4, 5, 6, 7] rfl hO)⟩ (hd_v rfl (fun _ _ => (v_move rfl)) rfl (hd_v rfl (fun _ _ => (v_fieldA Try.underlying55 rfl Try.sizeOf3 rfl)) rfl ?_)))))))
      refine hd_v rfl (fun H' hS => by obtain ⟨Z', hO⟩ := hS; exact (v_load1 Try.isAgg3 rfl (Blk.cell (hO.box 3 rfl) rfl))) rfl (hd_v rfl (fun _ _ => (v_fieldA Try.underlying55 rfl Try.sizeOf3 rfl)) rfl (hd_v rfl (fun H' hS => by obtain ⟨Z', hO⟩ := hS; exact (v_load1 Try.isAgg3 rfl (Blk.cell (hO.box 2 rfl) rfl))) rfl (hd_v rfl (fun _ _ => (v_fieldA Try.underlying42 rfl Try.sizeOf9 rfl)) rfl (hd_v rfl (fun H' hS => by obtain ⟨Z', hO⟩ := hS; exact (v_load1 Try.isAgg9 rfl (Blk.cell (hb_11 _ _ (Own.tails [_, _, _, _, _, _, _, _] hO)) rfl))) rfl (hd_v rfl (fun H' hS => by obtain ⟨Z', hO⟩ := hS; exact (v_loadA Try.isAgg55 Try.sizeOf55 rfl (Blk.at0 (hO.box 3 rfl)) rfl)) rfl (hd_v rfl (fun _ _ => (v_move rfl)) rfl ?_))))))
      obtain ⟨hs_59, h⟩ := h
      refine hd_v rfl (fun _ _ => (v_toB (by rw [Try.underlying3]; rfl) Try.underlying5 rfl hs_59)) rfl (hd_v rfl (fun _ _ => (v_fieldA Try.underlying42 rfl Try.sizeOf9 rfl)) rfl (hd_v rfl (fun H' hS => by obtain ⟨Z', hO⟩ := hS; exact (v_load1 Try.isAgg9 rfl (Blk.cell (hb_11 _ _ (Own.tails [_, _, _, _, _, _, _, _] hO)) rfl))) rfl (hd_v rfl (fun H' hS => by obtain ⟨Z', hO⟩ := hS; exact (v_loadA Try.isAgg55 Try.sizeOf55 rfl (Blk.at0 (hO.box 2 rfl)) rfl)) rfl (hd_v rfl (fun _ _ => (v_move rfl)) rfl (hd_v rfl (fun _ _ => (v_toB (by rw [Try.underlying3]; rfl) Try.underlying5 rfl hs_59)) rfl ?_)))))
      obtain ⟨hs_60, h⟩ := h
      refine hd_h (h_call Try.call28 (evs_cons rfl (evs_cons rfl evs_nil)) (twinOut_spec (a0 := (c0.Arcs.getD k default)) (a1 := (UInt8.ofNat b.toNat)) hs_60 hO)) (by rintro _ H_61 ⟨Z_62, _, rfl, hO⟩; exact ⟨_, (Own.sel (Ls := [box b_50 (fPair.enc (((BSet.band ((c0.Arcs.getD k default).Set) ((c0.Arcs.getD k2 default).Set)).rows).getD k3 default)) 75, own fPair 75 v_37 ((BSet.band ((c0.Arcs.getD k default).Set) ((c0.Arcs.getD k2 default).Set)).rows), box b_31 (fGArc.enc (c0.Arcs.getD k2 default)) 55, box b_21 (fGArc.enc (c0.Arcs.getD k default)) 55, fz fGArc.rep v_7 c0.Arcs, fz fGTip.rep v_5 c0.Ends, fz fGTip.rep v_3 c0.Starts, inZ Z, J y4]) (L := L) [0, 1, 2, 3, 4, 5, 6, 7] rfl hO)⟩) rfl ?_
      rintro _ H_61 ⟨Z_62, _, rfl, hO⟩
      obtain ⟨hs_64, h⟩ := h
      refine hd_v rfl (fun _ _ => (v_addS rfl rfl hs_64)) rfl ?_
      obtain ⟨hs_65, h⟩ := h
      refine hd_h (h_call Try.call28 (evs_cons rfl (evs_cons rfl evs_nil)) (twinOut_spec (a0 := (c0.Arcs.getD k2 default)) (a1 := (UInt8.ofNat b.toNat)) hs_65 hO)) (by rintro _ H_66 ⟨Z_67, _, rfl, hO⟩; exact ⟨_, (Own.sel (Ls := [box b_50 (fPair.enc (((BSet.band ((c0.Arcs.getD k default).Set) ((c0.Arcs.getD k2 default).Set)).rows).getD k3 default)) 75, own fPair 75 v_37 ((BSet.band ((c0.Arcs.getD k default).Set) ((c0.Arcs.getD k2 default).Set)).rows), box b_31 (fGArc.enc (c0.Arcs.getD k2 default)) 55, box b_21 (fGArc.enc (c0.Arcs.getD k default)) 55, fz fGArc.rep v_7 c0.Arcs, fz fGTip.rep v_5 c0.Ends, fz fGTip.rep v_3 c0.Starts, inZ Z, J y4]) (L := L) [0, 1, 2, 3, 4, 5, 6, 7] rfl hO)⟩) rfl ?_
      rintro _ H_66 ⟨Z_67, _, rfl, hO⟩
      obtain ⟨hs_69, h⟩ := h
      refine hd_v rfl (fun _ _ => (v_addS rfl rfl hs_69)) rfl ?_
      obtain ⟨hs_70, h⟩ := h
      refine hd_h (h_call Try.call18 (evs_cons rfl (evs_cons rfl (evs_cons rfl (evs_cons rfl evs_nil)))) (twinOf_spec (a0 := (c0.Arcs.getD k default).To) (a1 := (c0.Arcs.getD k2 default).To) (a2 := (c1.a ++ (fOutB (c0.Arcs.getD k default) (UInt8.ofNat b.toNat)))) (a3 := (c1.b ++ (fOutB (c0.Arcs.getD k2 default) (UInt8.ofNat b.toNat)))) hs_70 hO)) (by rintro _ H_71 ⟨Z_72, _, rfl, hO⟩; exact ⟨_, (Own.sel (Ls := [box b_50 (fPair.enc (((BSet.band ((c0.Arcs.getD k default).Set) ((c0.Arcs.getD k2 default).Set)).rows).getD k3 default)) 75, own fPair 75 v_37 ((BSet.band ((c0.Arcs.getD k default).Set) ((c0.Arcs.getD k2 default).Set)).rows), box b_31 (fGArc.enc (c0.Arcs.getD k2 default)) 55, box b_21 (fGArc.enc (c0.Arcs.getD k default)) 55, fz fGArc.rep v_7 c0.Arcs, fz fGTip.rep v_5 c0.Ends, fz fGTip.rep v_3 c0.Starts, inZ Z, J y4]) (L := L) [0, 1, 2, 3, 4, 5, 6, 7] rfl hO)⟩) rfl ?_
      rintro _ H_71 ⟨Z_72, _, rfl, hO⟩
      obtain ⟨hs_74, h⟩ := h
      refine hd_y (y_call rfl (evs_cons rfl evs_nil) (hY y4 (tOf ((c0.Arcs.getD k default).To) ((c0.Arcs.getD k2 default).To) (c1.a ++ (fOutB (c0.Arcs.getD k default) (UInt8.ofNat b.toNat))) (c1.b ++ (fOutB (c0.Arcs.getD k2 default) (UInt8.ofNat b.toNat)))) hs_74 [box b_50 (fPair.enc (((BSet.band ((c0.Arcs.getD k default).Set) ((c0.Arcs.getD k2 default).Set)).rows).getD k3 default)) 75, own fPair 75 v_37 ((BSet.band ((c0.Arcs.getD k default).Set) ((c0.Arcs.getD k2 default).Set)).rows), box b_31 (fGArc.enc (c0.Arcs.getD k2 default)) 55, box b_21 (fGArc.enc (c0.Arcs.getD k default)) 55, fz fGArc.rep v_7 c0.Arcs, fz fGTip.rep v_5 c0.Ends, fz fGTip.rep v_3 c0.Starts, inZ Z] _ _ hO)) (fun v H' hR => by obtain ⟨b, Z', _, hO⟩ := hR; exact ⟨Z', (Own.sel (Ls := [box b_50 (fPair.enc (((BSet.band ((c0.Arcs.getD k default).Set) ((c0.Arcs.getD k2 default).Set)).rows).getD k3 default)) 75, own fPair 75 v_37 ((BSet.band ((c0.Arcs.getD k default).Set) ((c0.Arcs.getD k2 default).Set)).rows), box b_31 (fGArc.enc (c0.Arcs.getD k2 default)) 55, box b_21 (fGArc.enc (c0.Arcs.getD k default)) 55, fz fGArc.rep v_7 c0.Arcs, fz fGTip.rep v_5 c0.Ends, fz fGTip.rep v_3 c0.Starts, inZ Z, _]) (L := L) [0, 1, 2, 3, 4, 5, 6, 7] rfl hO)⟩) rfl ?_
      rintro _ H_76 ⟨b_75, Z_77, rfl, hO⟩
      cases b_75
      ·replace hO : Own H_76 Z_77 (box b_50 (fPair.enc (((BSet.band ((c0.Arcs.getD k default).Set) ((c0.Arcs.getD k2 default).Set)).rows).getD k3 default)) 75 :: own fPair 75 v_37 ((BSet.band ((c0.Arcs.getD k default).Set) ((c0.Arcs.getD k2 default).Set)).rows) :: box b_31 (fGArc.enc (c0.Arcs.getD k2 default)) 55 :: box b_21 (fGArc.enc (c0.Arcs.getD k default)) 55 :: fz fGArc.rep v_7 c0.Arcs :: fz fGTip.rep v_5 c0.Ends :: fz fGTip.rep v_3 c0.Starts :: inZ Z :: Jx :: L) := hO
       replace h := h.2
       refine hd_v rfl (fun _ _ => (v_not rfl)) rfl (hd_nil (thenQ_n (hw_sub _ (a_c 0 rfl (a_c 1 rfl (a_c 2 rfl (a_c 5 rfl (a_c 7 rfl (a_c 9 rfl (a_c 10 rfl (a_c 12 rfl (a_c 13 rfl (a_c 14 rfl (a_c 19 rfl (a_c 20 rfl (a_c 21 rfl (a_c 42 rfl (a_c 43 rfl (a_c 44 rfl (a_c 79 rfl a_n))))))))))))))))) (hw_cond_t rfl (hw_ret (blockQ_r (thenQ_r (thenQ_r (blockQ_r (blockQ_r (thenQ_r (thenQ_r (blockQ_r (blockQ_r (thenQ_r (thenQ_r (blockQ_r (blockQ_r (thenQ_r (thenQ_r (blockQ_r (ret_i _ ra_nil ?_))))))))))))))))))))))
       exact .inr ⟨_, (Own.sel (Ls := [box b_50 (fPair.enc (((BSet.band ((c0.Arcs.getD k default).Set) ((c0.Arcs.getD k2 default).Set)).rows).getD k3 default)) 75, own fPair 75 v_37 ((BSet.band ((c0.Arcs.getD k default).Set) ((c0.Arcs.getD k2 default).Set)).rows), box b_31 (fGArc.enc (c0.Arcs.getD k2 default)) 55, box b_21 (fGArc.enc (c0.Arcs.getD k default)) 55, fz fGArc.rep v_7 c0.Arcs, fz fGTip.rep v_5 c0.Ends, fz fGTip.rep v_3 c0.Starts, inZ Z, Jx]) (L := L) [8] rfl hO)⟩
      ·replace hO : Own H_76 Z_77 (box b_50 (fPair.enc (((BSet.band ((c0.Arcs.getD k default).Set) ((c0.Arcs.getD k2 default).Set)).rows).getD k3 default)) 75 :: own fPair 75 v_37 ((BSet.band ((c0.Arcs.getD k default).Set) ((c0.Arcs.getD k2 default).Set)).rows) :: box b_31 (fGArc.enc (c0.Arcs.getD k2 default)) 55 :: box b_21 (fGArc.enc (c0.Arcs.getD k default)) 55 :: fz fGArc.rep v_7 c0.Arcs :: fz fGTip.rep v_5 c0.Ends :: fz fGTip.rep v_3 c0.Starts :: inZ Z :: J (y4 + 1) :: L) := hO
       replace h := h.1
       refine hd_v rfl (fun _ _ => (v_not rfl)) rfl (hd_nil (thenQ_n (hw_sub _ (a_c 0 rfl (a_c 1 rfl (a_c 2 rfl (a_c 5 rfl (a_c 7 rfl (a_c 9 rfl (a_c 10 rfl (a_c 12 rfl (a_c 13 rfl (a_c 14 rfl (a_c 19 rfl (a_c 20 rfl (a_c 21 rfl (a_c 42 rfl (a_c 43 rfl (a_c 44 rfl (a_c 79 rfl a_n))))))))))))))))) (hw_cond_f rfl (hw_skip (blockQ_n (thenQ_n (hw_region (hl_v (v_move rfl) rfl ?_)))))))))
       obtain ⟨hs_78, h⟩ := h
       refine hl_v (v_add rfl rfl hs_78) rfl (hl_v (v_assign rfl) rfl (hl_nil (thenQ_n ?_)))
       exact ⟨_, _, (a_c 0 rfl (a_c 1 rfl (a_c 2 rfl (a_c 5 rfl (a_c 7 rfl (a_c 9 rfl (a_c 10 rfl (a_c 12 rfl (a_c 13 rfl (a_c 14 rfl (a_c 19 rfl (a_c 20 rfl (a_c 21 rfl (a_c 42 rfl (a_c 43 rfl (a_c 44 rfl a_n)))))))))))))))), ⟨(b + 1), (y4 + 1), _, rfl, rfl, h.1, hO⟩, h.2⟩
     ·replace h := ite_f h hc_58
      refine hw_exit (thenQ_e (thenQ_e (blockQ_hit (blockQ_n (thenQ_n (hw_region (hl_v (v_add rfl rfl (by have hq := of_decide_eq_true hc_48; have hm := hln_41; constructor <;> omega)) rfl (hl_v (v_move rfl) rfl (hl_nil (thenQ_n ?_))))))))))
      exact ⟨_, _, (a_c 0 rfl (a_c 1 rfl (a_c 2 rfl (a_c 5 rfl (a_c 7 rfl (a_c 12 rfl (a_c 13 rfl (a_c 14 rfl (a_c 19 rfl (a_c 20 rfl (a_c 21 rfl (a_c 42 rfl (a_c 43 rfl (a_c 44 rfl a_n)))))))))))))), ⟨k3 + 1, y4, _, rfl, rfl, h, (by have hq := of_decide_eq_true hc_48; omega), (Own.sel (Ls := [box b_50 (fPair.enc (((BSet.band ((c0.Arcs.getD k default).Set) ((c0.Arcs.getD k2 default).Set)).rows).getD k3 default)) 75, own fPair 75 v_37 ((BSet.band ((c0.Arcs.getD k default).Set) ((c0.Arcs.getD k2 default).Set)).rows), box b_31 (fGArc.enc (c0.Arcs.getD k2 default)) 55, box b_21 (fGArc.enc (c0.Arcs.getD k default)) 55, fz fGArc.rep v_7 c0.Arcs, fz fGTip.rep v_5 c0.Ends, fz fGTip.rep v_3 c0.Starts, inZ Z, J y4]) (L := L) [1, 2, 3, 4, 5, 6, 7, 8] rfl hO)⟩, (by have hq := of_decide_eq_true hc_48; omega)⟩
    ·replace h := ite_f h hc_48
     refine hw_exit (thenQ_e (thenQ_e (blockQ_hit (blockQ_n (thenQ_n (hw_region (hl_v (v_add rfl rfl (by have hq := of_decide_eq_true hc_29; have hm := hln_12; constructor <;> omega)) rfl (hl_v (v_move rfl) rfl (hl_nil (thenQ_n ?_))))))))))
     exact ⟨_, _, (a_c 0 rfl (a_c 1 rfl (a_c 2 rfl (a_c 5 rfl (a_c 12 rfl (a_c 13 rfl (a_c 14 rfl (a_c 19 rfl (a_c 20 rfl (a_c 21 rfl a_n)))))))))), ⟨k2 + 1, y3, _, rfl, rfl, h, (by have hq := of_decide_eq_true hc_29; omega), (Own.sel (Ls := [own fPair 75 v_37 ((BSet.band ((c0.Arcs.getD k default).Set) ((c0.Arcs.getD k2 default).Set)).rows), box b_31 (fGArc.enc (c0.Arcs.getD k2 default)) 55, box b_21 (fGArc.enc (c0.Arcs.getD k default)) 55, fz fGArc.rep v_7 c0.Arcs, fz fGTip.rep v_5 c0.Ends, fz fGTip.rep v_3 c0.Starts, inZ Z, J y3]) (L := L) [2, 3, 4, 5, 6, 7] rfl hO)⟩, (by have hq := of_decide_eq_true hc_29; omega)⟩
  ·replace h := ite_f h hc_29
   refine hw_exit (thenQ_e (thenQ_e (blockQ_hit (blockQ_n (thenQ_n (hw_region (hl_v (v_add rfl rfl (by have hq := of_decide_eq_true hc_19; have hm := hln_12; constructor <;> omega)) rfl (hl_v (v_move rfl) rfl (hl_nil (thenQ_n ?_))))))))))
   exact ⟨_, _, (a_c 0 rfl (a_c 1 rfl (a_c 2 rfl (a_c 12 rfl (a_c 13 rfl (a_c 14 rfl a_n)))))), ⟨k + 1, y2, _, rfl, rfl, h, (by have hq := of_decide_eq_true hc_19; omega), (Own.sel (Ls := [box b_21 (fGArc.enc (c0.Arcs.getD k default)) 55, fz fGArc.rep v_7 c0.Arcs, fz fGTip.rep v_5 c0.Ends, fz fGTip.rep v_3 c0.Starts, inZ Z, J y2]) (L := L) [1, 2, 3, 4, 5] rfl hO)⟩, (by have hq := of_decide_eq_true hc_19; omega)⟩
 ·replace h := ite_f h hc_19
  refine hw_exit (thenQ_e (thenQ_e (blockQ_hit (ret_n _ ra_nil ?_))))
  exact .inl ⟨_, h, _, (Own.sel (Ls := [fz fGArc.rep v_7 c0.Arcs, fz fGTip.rep v_5 c0.Ends, fz fGTip.rep v_3 c0.Starts, inZ Z, J y]) (L := L) [4] rfl hO)⟩
theorem twinNext1_spec {a0 : GFst} {a1 : Gtwin_lag} {v_3 : Value} {v_5 : Value} {v_7 : Value} {b_2 : Nat} {b_10 : Nat} {L : List As} (hp : (∀ x ∈ a0.Arcs, x.Out.length ≤ 1024) ∧ a1.a.length ≤ 1000000000000 ∧ a1.b.length ≤ 1000000000000) (hf_4 : Fz fGTip.rep L v_3 a0.Starts) (hf_6 : Fz fGTip.rep L v_5 a0.Ends) (hf_8 : Fz fGArc.rep L v_7 a0.Arcs) (hb_9 : Bx L b_2 [.int .i64 a0.States, v_3, v_5, v_7] 28) (hb_11 : Bx L b_10 (fGtwin_lag.enc a1) 42) : ItO Try.prog 30 [ptr b_2 0, ptr b_10 0] L (fun x => [.agg (fGtwin_lag.enc x).toArray]) (tNext a0 a1) :=
  fun lab J Jx hY Z G hO => (twinNext1_ok (c0 := a0) (c1 := a1) (X := fun k x => k < (tNext a0 a1).length ∧ (tNext a0 a1).getD k default = x) (Q := fun k => k = (tNext a0 a1).length) (fun k x hX => hY k x hX.1 hX.2) (@twinNext1_wp a0 a1 hp) hO hf_4 hf_6 hf_8 hb_9 hb_11).mono (fun v G' h => by
    rcases h with ⟨k, rfl, Z', h⟩ | ⟨Z', h⟩
    · exact ⟨Z', .inl h⟩
    · exact ⟨Z', .inr h⟩)

theorem twinNext_ok {t : GFst} {l : Gtwin_lag} {v_1 : Value} {v_3 : Value} {v_5 : Value} {Q : (GFst × Gtwin_lag) → Prop} {H : Heap} {Z : Nat → Prop} {L : List As} (h : wp_twinNext t l Q) (hO : Own H Z (L)) (hf_2 : Fz fGTip.rep L v_1 t.Starts) (hf_4 : Fz fGTip.rep L v_3 t.Ends) (hf_6 : Fz fGArc.rep L v_5 t.Arcs) : HC Try.prog 19 [.agg [.int .i64 t.States, v_1, v_3, v_5].toArray, .agg (fGtwin_lag.enc l).toArray] H (fun v H' => ∃ (Z' : Nat → Prop) (r0 : GFst × Gtwin_lag) (v_8 : Value) (v_10 : Value) (v_12 : Value) (b_7 : Nat) (b_14 : Nat), (∀ b, Z b → Z' b) ∧ Q r0 ∧ v = .func (.func 30) #[] #[ptr b_7 0, ptr b_14 0] ∧ Own H' Z' (box b_7 [.int .i64 r0.1.States, v_8, v_10, v_12] 28 :: box b_14 (fGtwin_lag.enc r0.2) 42 :: fz fGTip.rep v_8 r0.1.Starts :: fz fGTip.rep v_10 r0.1.Ends :: fz fGArc.rep v_12 r0.1.Arcs :: L)) := by
 replace hO := hO.inZ
 replace hO := Fz.items [_] hf_2 hO
 replace hO := Fz.items [_, _] hf_4 hO
 replace hO := Fz.items [_, _, _] hf_6 hO
 unfold wp_twinNext at h
 refine hc_of_hw (N := 6) (rs := [(.tmp 4)]) Try.func19 rfl rfl rfl rfl (hw_seq (hw_region (hl_h (o_box (cs := [.int .i64 t.States, v_1, v_3, v_5]) hO rfl rfl) rfl ?_)))
 rintro _ H_15 ⟨b_16, rfl, hO⟩
 refine hl_h (o_box (cs := (fGtwin_lag.enc l)) hO rfl rfl) rfl ?_
 rintro _ H_17 ⟨b_18, rfl, hO⟩
 refine hl_v (v_assign rfl) rfl (hl_nil (thenQ_n (hw_seq (hw_region (hl_v (v_makeFunc (us := []) (vs := [_, _]) rfl rfl) rfl (hl_v (v_assign rfl) rfl (hl_nil (thenQ_n (hw_ret (ret_i _ (ra_t rfl ra_nil) ?_))))))))))
 exact ⟨_, (t, l), v_1, v_3, v_5, b_16, b_18, (hO.inz 5 rfl), h, rfl, (Own.sel (Ls := [box b_18 (fGtwin_lag.enc l) 42, box b_16 [.int .i64 t.States, v_1, v_3, v_5] 28, fz fGArc.rep v_5 t.Arcs, fz fGTip.rep v_3 t.Ends, fz fGTip.rep v_1 t.Starts, inZ Z]) (L := L) [1, 0, 4, 3, 2] rfl hO)⟩
theorem twinNext_spec {a0 : GFst} {a1 : Gtwin_lag} {v_1 : Value} {v_3 : Value} {v_5 : Value} {L : List As} {H : Heap} {Z : Nat → Prop} (hO : Own H Z (L)) (hf_2 : Fz fGTip.rep L v_1 a0.Starts) (hf_4 : Fz fGTip.rep L v_3 a0.Ends) (hf_6 : Fz fGArc.rep L v_5 a0.Arcs) : HC Try.prog 19 [.agg [.int .i64 a0.States, v_1, v_3, v_5].toArray, .agg (fGtwin_lag.enc a1).toArray] H (fun v H' => ∃ (Z' : Nat → Prop) (v_8 : Value) (v_10 : Value) (v_12 : Value) (b_7 : Nat) (b_14 : Nat), (∀ b, Z b → Z' b) ∧ v = .func (.func 30) #[] #[ptr b_7 0, ptr b_14 0] ∧ Own H' Z' (box b_7 [.int .i64 ((a0, a1)).1.States, v_8, v_10, v_12] 28 :: box b_14 (fGtwin_lag.enc ((a0, a1)).2) 42 :: fz fGTip.rep v_8 ((a0, a1)).1.Starts :: fz fGTip.rep v_10 ((a0, a1)).1.Ends :: fz fGArc.rep v_12 ((a0, a1)).1.Arcs :: L)) := by
  refine (twinNext_ok (t := a0) (l := a1) (@twinNext_wp a0 a1) hO hf_2 hf_4 hf_6).mono ?_
  rintro v H' ⟨Z', r0, v_8, v_10, v_12, b_7, b_14, hz, hq, hv, hO'⟩
  obtain rfl := hq
  exact ⟨Z', v_8, v_10, v_12, b_7, b_14, hz, hv, hO'⟩

theorem twinPut_ok {l : Gtwin_lag} {c0 : List (Gtwin_lag × Bool)} {c1 : List Gtwin_lag} {c2 : Bool} {c3 : Int} {v_4 : Value} {b_1 : Nat} {b_2 : Nat} {b_3 : Nat} {b_5 : Nat} {b_6 : Nat} {Q : (List (Gtwin_lag × Bool)) → (List Gtwin_lag) → Bool → Prop} {H : Heap} {Z : Nat → Prop} {L : List As} (h : wp_twinPut l c0 c1 c2 c3 Q) (hO : Own H Z (box b_1 [.map (some b_2)] 39 :: tbl (aggOf fGtwin_lag) Value.bool b_2 c0 :: box b_3 [v_4] 40 :: own fGtwin_lag 42 v_4 c1 :: box b_5 [.bool c2] 4 :: L)) (hb_7 : Bx L b_6 [.int .i64 c3] 3) : HC Try.prog 17 [.agg (fGtwin_lag.enc l).toArray, ptr b_1 0, ptr b_3 0, ptr b_5 0, ptr b_6 0] H (fun v H' => ∃ (Z' : Nat → Prop) (m0 : List (Gtwin_lag × Bool)) (m1 : List Gtwin_lag) (m2 : Bool) (v_9 : Value) (b_8 : Nat), (∀ b, Z b → Z' b) ∧ Q m0 m1 m2 ∧ v = .tuple #[] ∧ Own H' Z' (box b_1 [.map (some b_8)] 39 :: tbl (aggOf fGtwin_lag) Value.bool b_8 m0 :: box b_3 [v_9] 40 :: own fGtwin_lag 42 v_9 m1 :: box b_5 [.bool m2] 4 :: L)) := by
 replace hO := hO.inZ
 unfold wp_twinPut at h
 refine hc_of_hw (N := 31) (rs := []) Try.func17 rfl rfl rfl rfl (hw_seq (hw_region (hl_h (o_box (cs := (fGtwin_lag.enc l)) hO rfl rfl) rfl ?_)))
 rintro _ H_10 ⟨b_11, rfl, hO⟩
 refine hl_nil (thenQ_n (hw_seq (hw_region (hl_v (v_load1 Try.isAgg39 rfl (Blk.cell (hO.box 2 rfl) rfl)) rfl (hl_v (v_loadA Try.isAgg42 Try.sizeOf42 rfl (Blk.at0 (hO.box 0 rfl)) rfl) rfl (hl_v (v_lookup1 (d := false) key_42_20 rfl Try.underlying39 Try.zeroValue4 rfl rfl (hO.tbl 3 rfl)) rfl (hl_v (v_not rfl) rfl (hl_nil (thenQ_n (hw_cond rfl (fun hc_12 => ?_) (fun hc_12 => ?_)))))))))))
 ·replace h := ite_t h hc_12
  refine hw_seq (hw_region (hl_v (v_load1 Try.isAgg39 rfl (Blk.cell (hO.box 2 rfl) rfl)) rfl (hl_v (v_loadA Try.isAgg42 Try.sizeOf42 rfl (Blk.at0 (hO.box 0 rfl)) rfl) rfl (hl_s (o_mapUpdate (k := l) (v := true) hO 3 rfl key_42_20 rfl Try.underlying39 rfl rfl rfl) ?_))))
  rintro _ H_13 hO
  refine hl_nil (thenQ_n (hw_seq (hw_region (hl_v (v_load1 Try.isAgg40 rfl (Blk.cell (hO.box 4 rfl) rfl)) rfl (hl_v (v_loadA Try.isAgg42 Try.sizeOf42 rfl (Blk.at0 (hO.box 0 rfl)) rfl) rfl (hl_h (o_lit (g := fGtwin_lag) (l := [l]) (xs := [.tmp 13]) hO Try.underlying40 Try.sizeOf42 Try.zeroValue42 rfl (evs_cons rfl evs_nil) rfl rfl rfl rfl rfl) rfl ?_))))))
  rintro v_15 H_14 hO
  obtain ⟨hs_18, h⟩ := h
  refine hl_h (o_append (l2 := [l]) hO 6 rfl rfl Try.underlying40 Try.type42 rfl rfl rfl rfl rfl rfl rfl (hO.osl 0 rfl) hs_18 (le63 hs_18 rfl)) rfl ?_
  rintro v_17 H_16 hO
  refine hl_s (o_store1 hO 5 rfl Try.sizeOf40 rfl rfl rfl (Sl.one (hO.osl 6 rfl))) ?_
  rintro _ H_19 hO
  refine hl_nil (thenQ_n (hw_sub _ (a_c 3 rfl (a_c 4 rfl (a_c 5 rfl a_n))) (hw_region (hl_v (v_load1 Try.isAgg4 rfl (Blk.cell (hO.box 7 rfl) rfl)) rfl (hl_v (v_move rfl) rfl (hl_g rfl rfl (fun hg => (v_fieldA Try.underlying42 rfl Try.sizeOf9 rfl)) rfl (hl_g rfl rfl (fun hg => (v_load1 Try.isAgg9 (gv_ok rfl hg) (Blk.cell (hO.box 1 rfl) rfl))) rfl (hl_g rfl rfl (fun hg => (v_lenS rfl Try.underlying9 (gv_ok rfl hg))) rfl (hl_g rfl rfl (fun hg => (v_load1 Try.isAgg3 rfl (Blk.cell (hb_7 _ _ (Own.tails [_, _, _, _, _, _, _, _] hO)) rfl))) rfl (hl_g rfl rfl (fun hg => (v_gtr (gv_ok rfl hg) (gv_ok rfl hg))) rfl (hl_v (v_or rfl rfl) rfl (hl_v (v_move rfl) rfl (hl_g rfl rfl (fun hg => (v_fieldA Try.underlying42 rfl Try.sizeOf9 rfl)) rfl (hl_g rfl rfl (fun hg => (v_load1 Try.isAgg9 (gv_ok rfl hg) (Blk.cell (hO.box 1 rfl) rfl))) rfl (hl_g rfl rfl (fun hg => (v_lenS rfl Try.underlying9 (gv_ok rfl hg))) rfl (hl_g rfl rfl (fun hg => (v_load1 Try.isAgg3 rfl (Blk.cell (hb_7 _ _ (Own.tails [_, _, _, _, _, _, _, _] hO)) rfl))) rfl (hl_g rfl rfl (fun hg => (v_gtr (gv_ok rfl hg) (gv_ok rfl hg))) rfl (hl_v (v_or rfl rfl) rfl (hl_s (o_store1 hO 7 rfl Try.sizeOf4 rfl rfl rfl rfl) ?_)))))))))))))))))))
  rintro _ H_20 hO
  replace hO : Own H_20 Z (own fGtwin_lag 42 v_15 [l] :: box b_11 (fGtwin_lag.enc l) 42 :: inZ Z :: box b_1 [.map (some b_2)] 39 :: tbl (aggOf fGtwin_lag) Value.bool b_2 (aput c0 l true) :: box b_3 [v_17] 40 :: own fGtwin_lag 42 v_17 (c1 ++ [l]) :: box b_5 [.bool ((c2 || decide (c3 < (l.a.length : Int))) || decide (c3 < (l.b.length : Int)))] 4 :: L) := hO
  refine hl_nil (ret_n _ ra_nil ?_)
  exact ⟨_, (aput c0 l true), (c1 ++ [l]), ((c2 || decide (c3 < (l.a.length : Int))) || decide (c3 < (l.b.length : Int))), v_17, b_2, (hO.inz 2 rfl), h, rfl, (Own.sel (Ls := [own fGtwin_lag 42 v_15 [l], box b_11 (fGtwin_lag.enc l) 42, inZ Z, box b_1 [.map (some b_2)] 39, tbl (aggOf fGtwin_lag) Value.bool b_2 (aput c0 l true), box b_3 [v_17] 40, own fGtwin_lag 42 v_17 (c1 ++ [l]), box b_5 [.bool ((c2 || decide (c3 < (l.a.length : Int))) || decide (c3 < (l.b.length : Int)))] 4]) (L := L) [3, 4, 5, 6, 7] rfl hO)⟩
 ·replace h := ite_f h hc_12
  refine hw_skip (ret_n _ ra_nil ?_)
  exact ⟨_, c0, c1, c2, v_4, b_2, (hO.inz 1 rfl), h, rfl, (Own.sel (Ls := [box b_11 (fGtwin_lag.enc l) 42, inZ Z, box b_1 [.map (some b_2)] 39, tbl (aggOf fGtwin_lag) Value.bool b_2 c0, box b_3 [v_4] 40, own fGtwin_lag 42 v_4 c1, box b_5 [.bool c2] 4]) (L := L) [2, 3, 4, 5, 6] rfl hO)⟩
theorem twinPut_spec {a0 : Gtwin_lag} {a1 : List (Gtwin_lag × Bool)} {a2 : List Gtwin_lag} {a3 : Bool} {a4 : Int} {v_4 : Value} {b_1 : Nat} {b_2 : Nat} {b_3 : Nat} {b_5 : Nat} {b_6 : Nat} {L : List As} (hp : a2.length ≤ 1000000000000) {H : Heap} {Z : Nat → Prop} (hO : Own H Z (box b_1 [.map (some b_2)] 39 :: tbl (aggOf fGtwin_lag) Value.bool b_2 a1 :: box b_3 [v_4] 40 :: own fGtwin_lag 42 v_4 a2 :: box b_5 [.bool a3] 4 :: L)) (hb_7 : Bx L b_6 [.int .i64 a4] 3) : HC Try.prog 17 [.agg (fGtwin_lag.enc a0).toArray, ptr b_1 0, ptr b_3 0, ptr b_5 0, ptr b_6 0] H (fun v H' => ∃ (Z' : Nat → Prop) (v_9 : Value) (b_8 : Nat), (∀ b, Z b → Z' b) ∧ v = .tuple #[] ∧ Own H' Z' (box b_1 [.map (some b_8)] 39 :: tbl (aggOf fGtwin_lag) Value.bool b_8 (((tPut a4 a0 (a1, a2, a3))).1) :: box b_3 [v_9] 40 :: own fGtwin_lag 42 v_9 (((tPut a4 a0 (a1, a2, a3))).2.1) :: box b_5 [.bool (((tPut a4 a0 (a1, a2, a3))).2.2)] 4 :: L)) := by
  refine (twinPut_ok (l := a0) (c0 := a1) (c1 := a2) (c2 := a3) (c3 := a4) (@twinPut_wp a0 a1 a2 a3 a4 hp) hO hb_7).mono ?_
  rintro v H' ⟨Z', m0, m1, m2, v_9, b_8, hz, hq, hv, hO'⟩
  obtain ⟨rfl, rfl, rfl⟩ := hq
  exact ⟨Z', v_9, b_8, hz, hv, hO'⟩

theorem twinTwin_ok {t : GFst} {v_1 : Value} {v_3 : Value} {v_5 : Value} {Q : Bool → Int → Prop} {H : Heap} {Z : Nat → Prop} {L : List As} (h : wp_twinTwin t Q) (hO : Own H Z (L)) (hf_2 : Fz fGTip.rep L v_1 t.Starts) (hf_4 : Fz fGTip.rep L v_3 t.Ends) (hf_6 : Fz fGArc.rep L v_5 t.Arcs) : HC Try.prog 6 [.agg [.int .i64 t.States, v_1, v_3, v_5].toArray] H (fun v H' => ∃ (Z' : Nat → Prop) (r0 : Bool) (r1 : Int) , (∀ b, Z b → Z' b) ∧ Q r0 r1 ∧ v = .tuple #[.bool r0, .int .i64 r1] ∧ Own H' Z' (L)) := by
 replace hO := hO.inZ
 replace hO := hO.szI (Nat.le_refl H.size)
 replace hO := Fz.items [_, _] hf_2 hO
 replace hO := Fz.items [_, _, _] hf_4 hO
 replace hO := Fz.items [_, _, _, _] hf_6 hO
 unfold wp_twinTwin at h
 refine hc_of_hw_m (M := 81) (rs := [(.tmp 2), (.tmp 3)]) Try.func6 rfl rfl rfl rfl (hw_seq (hw_region (hl_h (o_box (cs := [.int .i64 t.States, v_1, v_3, v_5]) hO rfl rfl) rfl ?_)))
 rintro _ H_7 ⟨b_8, rfl, hO⟩
 refine hl_v (v_assign rfl) rfl (hl_v (v_assign rfl) rfl (hl_nil (thenQ_n (hw_seq (hw_region (hl_v (v_loadA Try.isAgg28 Try.sizeOf28 rfl (Blk.at0 (hO.box 0 rfl)) rfl) rfl (hl_h (h_call Try.call16 (evs_cons rfl evs_nil) (twinTrim_spec (a0 := t) hO (Fz.of (i := 3) rfl) (Fz.of (i := 2) rfl) (Fz.of (i := 1) rfl))) rfl ?_)))))))
 rintro _ H_15 ⟨Z_16, v_9, v_11, v_13, _, rfl, hO⟩
 refine hl_v (v_move rfl) rfl (hl_v (v_extract rfl rfl) rfl (hl_v (v_extract rfl rfl) rfl (hl_v (v_extract rfl rfl) rfl (hl_h (o_alloc (cs := [.int .i64 (0 : Int)]) hO Try.zeroValue3 rfl) rfl ?_))))
 rintro _ H_18 ⟨b_19, rfl, hO⟩
 refine hl_s (o_storeA (us := [.int .i64 (((tTrim t).1).States), v_9, v_11, v_13]) hO 4 rfl Try.sizeOf28 rfl rfl rfl rfl (by simp only [List.forall_mem_cons]; exact ⟨rfl, (Sl.one (hO.fsl 1 rfl)), (Sl.one (hO.fsl 2 rfl)), (Sl.one (hO.fsl 3 rfl)), by simp⟩)) ?_
 rintro _ H_20 hO
 refine hl_s (o_store1 hO 0 rfl Try.sizeOf3 rfl rfl rfl rfl) ?_
 rintro _ H_21 hO
 refine hl_v (v_assign rfl) rfl (hl_nil (thenQ_n (hw_seq (hw_seq (hw_region (hl_v (v_move rfl) rfl (hl_v (v_neq rfl rfl) rfl (hl_nil (thenQ_n (hw_cond rfl (fun hc_22 => ?_) (fun hc_22 => ?_)))))))))))
 ·replace h := ite_t h hc_22
  refine hw_seq (hw_region (hl_v (v_move rfl) rfl (hl_v (v_assign rfl) rfl (hl_v (v_assign rfl) rfl (hl_nil (thenQ_n (hw_sub _ (a_c 2 rfl (a_c 3 rfl a_n)) (hw_ret (thenQ_r (retm_i (fun G' hsh => ?_)))))))))))
  replace hO := hO.shutB hsh
  refine ⟨_, (ra_t rfl (ra_t rfl ra_nil)), ?_⟩
  exact ⟨_, false, (tTrim t).2.2, (hO.inz 9 rfl), h, rfl, (Own.sel (Ls := [box b_19 [.int .i64 ((tTrim t).2.1)] 3, fz fGTip.rep v_9 (((tTrim t).1).Starts), fz fGTip.rep v_11 (((tTrim t).1).Ends), fz fGArc.rep v_13 (((tTrim t).1).Arcs), box b_8 [.int .i64 (((tTrim t).1).States), v_9, v_11, v_13] 28, fz fGArc.rep v_5 t.Arcs, fz fGTip.rep v_3 t.Ends, fz fGTip.rep v_1 t.Starts, szA H.size, inZ Z]) (L := L) [] rfl hO)⟩
 ·replace h := ite_f h hc_22
  refine hw_skip (thenQ_n (hw_seq (hw_region (hl_h (o_makeMap (ke := (aggOf fGtwin_lag)) (ve := Value.bool) hO) rfl ?_))))
  rintro _ H_23 ⟨b_24, rfl, hO⟩
  refine hl_h (o_alloc (cs := [.map none]) hO Try.zeroValue39 rfl) rfl ?_
  rintro _ H_25 ⟨b_26, rfl, hO⟩
  refine hl_s (o_store1 hO 0 rfl Try.sizeOf39 rfl rfl rfl rfl) ?_
  rintro _ H_27 hO
  refine hl_nil (thenQ_n (hw_sub _ (a_c 1 rfl (a_c 4 rfl (a_c 6 rfl a_n))) (hw_seq (hw_region (hl_h (o_alloc (cs := [.slice none 0 0]) hO Try.zeroValue40 rfl) rfl ?_)))))
  rintro _ H_28 ⟨b_29, rfl, hO⟩
  refine hl_nil (thenQ_n (hw_seq (hw_region (hl_h (o_alloc (cs := [.bool false]) hO Try.zeroValue4 rfl) rfl ?_))))
  rintro _ H_30 ⟨b_31, rfl, hO⟩
  refine hl_s (o_store1 hO 0 rfl Try.sizeOf4 rfl rfl rfl rfl) ?_
  rintro _ H_32 hO
  replace hO : Own H_32 Z_16 (box b_31 [.bool false] 4 :: box b_29 [.slice none 0 0] 40 :: box b_26 [.map (some b_24)] 39 :: tbl (aggOf fGtwin_lag) Value.bool b_24 [] :: box b_19 [.int .i64 ((tTrim t).2.1)] 3 :: fz fGTip.rep v_9 (((tTrim t).1).Starts) :: fz fGTip.rep v_11 (((tTrim t).1).Ends) :: fz fGArc.rep v_13 (((tTrim t).1).Arcs) :: box b_8 [.int .i64 (((tTrim t).1).States), v_9, v_11, v_13] 28 :: fz fGArc.rep v_5 t.Arcs :: fz fGTip.rep v_3 t.Ends :: fz fGTip.rep v_1 t.Starts :: szA H.size :: inZ Z :: L) := hO
  refine hl_nil (thenQ_n (hw_seq (hw_region (hl_v (v_makeFunc (us := []) (vs := [_, _, _, _]) rfl rfl) rfl (hl_h (o_alloc (cs := [.nilFunc]) hO Try.zeroValue43 rfl) rfl ?_)))))
  rintro _ H_33 ⟨b_34, rfl, hO⟩
  refine hl_s (o_store1 hO 0 rfl Try.sizeOf43 rfl rfl rfl rfl) ?_
  rintro _ H_35 hO
  refine hl_nil (thenQ_n (hw_seq (hw_seq (hw_region (hl_v (v_fieldA Try.underlying28 rfl Try.sizeOf25 rfl) rfl (hl_v (v_load1 Try.isAgg25 rfl (Blk.cell (hO.box 9 rfl) rfl)) rfl ?_))))))
  have hln_36 := Sl.cap (hO.fsl 6 rfl)
  refine hl_v (v_lenL rfl Try.underlying25 rfl (hO.fsl 6 rfl)) rfl (hl_v (v_move rfl) rfl (hl_nil (thenQ_n (hw_block ?_))))
  obtain ⟨I_39, h, hI_41⟩ := h
  replace hO := hO.nil fGtwin_lag 42
  refine hw_lp (fun n' g' H' => ∃ (seen : List (Gtwin_lag × Bool)) (last : List Gtwin_lag) (far : Bool) (k : Nat) (b_37 : Nat) (v_38 : Value) (Z' : Nat → Prop), n' = (((tTrim t).1).Starts).length - k ∧ g' = [(1, ptr b_8 0), (6, ptr b_26 0), (7, ptr b_29 0), (8, ptr b_31 0), (9, ptr b_34 0), (30, v_9), (31, .int .i64 ((((tTrim t).1).Starts).length : Int)), (32, .int .i64 (k : Int))] ∧ I_39 seen last far k ∧ k ≤ (((tTrim t).1).Starts).length ∧ Own H' Z' (own fGtwin_lag 42 v_38 last :: box b_34 [.func (.func 17) #[] #[ptr b_26 0, ptr b_29 0, ptr b_31 0, ptr b_19 0]] 43 :: box b_31 [.bool far] 4 :: box b_29 [v_38] 40 :: box b_26 [.map (some b_37)] 39 :: tbl (aggOf fGtwin_lag) Value.bool b_37 seen :: box b_19 [.int .i64 ((tTrim t).2.1)] 3 :: fz fGTip.rep v_9 (((tTrim t).1).Starts) :: fz fGTip.rep v_11 (((tTrim t).1).Ends) :: fz fGArc.rep v_13 (((tTrim t).1).Arcs) :: box b_8 [.int .i64 (((tTrim t).1).States), v_9, v_11, v_13] 28 :: szA H.size :: inZ Z :: L)) _ _ (a_c 1 rfl (a_c 6 rfl (a_c 7 rfl (a_c 8 rfl (a_c 9 rfl (a_c 30 rfl (a_c 31 rfl (a_c 32 rfl a_n)))))))) ⟨[], [], false, 0, b_24, .slice none 0 0, _, rfl, rfl, h, by omega, (Own.sel (Ls := [own fGtwin_lag 42 (.slice none 0 0) [], box b_34 [.func (.func 17) #[] #[ptr b_26 0, ptr b_29 0, ptr b_31 0, ptr b_19 0]] 43, box b_31 [.bool false] 4, box b_29 [.slice none 0 0] 40, box b_26 [.map (some b_24)] 39, tbl (aggOf fGtwin_lag) Value.bool b_24 [], box b_19 [.int .i64 ((tTrim t).2.1)] 3, fz fGTip.rep v_9 (((tTrim t).1).Starts), fz fGTip.rep v_11 (((tTrim t).1).Ends), fz fGArc.rep v_13 (((tTrim t).1).Arcs), box b_8 [.int .i64 (((tTrim t).1).States), v_9, v_11, v_13] 28, fz fGArc.rep v_5 t.Arcs, fz fGTip.rep v_3 t.Ends, fz fGTip.rep v_1 t.Starts, szA H.size, inZ Z]) (L := L) [0, 1, 2, 3, 4, 5, 6, 7, 8, 9, 10, 14, 15] rfl hO)⟩ ?_
  rintro _ _ H_42 ⟨seen, last, far, k, b_37, v_38, Z_43, rfl, rfl, h, hb_44, hO⟩
  replace h := hI_41 seen last far k h hb_44
  refine hw_seq (hw_region (hl_v (v_lss rfl rfl) rfl (hl_nil (thenQ_n (hw_seq (hw_cond rfl (fun hc_45 => ?_) (fun hc_45 => ?_)))))))
  ·replace h := ite_t h hc_45
   refine hw_skip (thenQ_n (hw_seq (hw_block (hw_seq (hw_region (hl_v (v_ixL Try.underlying25 Try.sizeOf45 rfl rfl (hO.fsl 7 rfl) (by exact ⟨Int.natCast_nonneg _, of_decide_eq_true hc_45⟩)) rfl (hl_v (v_loadFl Try.isAgg45 Try.sizeOf45 rfl (hO.fsl 7 rfl) rfl (by exact ⟨Int.natCast_nonneg _, of_decide_eq_true hc_45⟩)) rfl (hl_h (o_alloc (cs := (fGTip.enc (⟨(0 : Int), ([] : List UInt8)⟩ : GTip))) hO Try.zeroValue45 rfl) rfl ?_))))))))
   rintro _ H_46 ⟨b_47, rfl, hO⟩
   refine hl_s (o_storeA (us := (fGTip.enc ((((tTrim t).1).Starts).getD k default))) hO 0 rfl Try.sizeOf45 rfl rfl rfl rfl (by intro u hu; exact (fGTip).one _ u hu)) ?_
   rintro _ H_48 hO
   refine hl_nil (thenQ_n (hw_seq (hw_region (hl_v (v_fieldA Try.underlying28 rfl Try.sizeOf25 rfl) rfl (hl_v (v_load1 Try.isAgg25 rfl (Blk.cell (hO.box 11 rfl) rfl)) rfl (hl_v (v_lenL rfl Try.underlying25 rfl (hO.fsl 8 rfl)) rfl (hl_v (v_move rfl) rfl (hl_nil (thenQ_n (hw_sub _ (a_c 1 rfl (a_c 6 rfl (a_c 7 rfl (a_c 8 rfl (a_c 9 rfl (a_c 11 rfl (a_c 30 rfl (a_c 31 rfl (a_c 32 rfl (a_c 37 rfl (a_c 38 rfl (a_c 39 rfl a_n)))))))))))) (hw_block ?_)))))))))))
   obtain ⟨I_51, h, hI_53⟩ := h
   refine hw_lp (fun n' g' H' => ∃ (seen2 : List (Gtwin_lag × Bool)) (last2 : List Gtwin_lag) (far2 : Bool) (k2 : Nat) (b_49 : Nat) (v_50 : Value) (Z' : Nat → Prop), n' = (((tTrim t).1).Starts).length - k2 ∧ g' = [(1, ptr b_8 0), (6, ptr b_26 0), (7, ptr b_29 0), (8, ptr b_31 0), (9, ptr b_34 0), (11, ptr b_47 0), (30, v_9), (31, .int .i64 ((((tTrim t).1).Starts).length : Int)), (32, .int .i64 (k : Int)), (37, v_9), (38, .int .i64 ((((tTrim t).1).Starts).length : Int)), (39, .int .i64 (k2 : Int))] ∧ I_51 seen2 last2 far2 k2 ∧ k2 ≤ (((tTrim t).1).Starts).length ∧ Own H' Z' (box b_47 (fGTip.enc ((((tTrim t).1).Starts).getD k default)) 45 :: own fGtwin_lag 42 v_50 last2 :: box b_34 [.func (.func 17) #[] #[ptr b_26 0, ptr b_29 0, ptr b_31 0, ptr b_19 0]] 43 :: box b_31 [.bool far2] 4 :: box b_29 [v_50] 40 :: box b_26 [.map (some b_49)] 39 :: tbl (aggOf fGtwin_lag) Value.bool b_49 seen2 :: box b_19 [.int .i64 ((tTrim t).2.1)] 3 :: fz fGTip.rep v_9 (((tTrim t).1).Starts) :: fz fGTip.rep v_11 (((tTrim t).1).Ends) :: fz fGArc.rep v_13 (((tTrim t).1).Arcs) :: box b_8 [.int .i64 (((tTrim t).1).States), v_9, v_11, v_13] 28 :: szA H.size :: inZ Z :: L)) _ _ (a_c 1 rfl (a_c 6 rfl (a_c 7 rfl (a_c 8 rfl (a_c 9 rfl (a_c 11 rfl (a_c 30 rfl (a_c 31 rfl (a_c 32 rfl (a_c 37 rfl (a_c 38 rfl (a_c 39 rfl a_n)))))))))))) ⟨seen, last, far, 0, b_37, v_38, _, rfl, rfl, h, by omega, hO⟩ ?_
   rintro _ _ H_54 ⟨seen2, last2, far2, k2, b_49, v_50, Z_55, rfl, rfl, h, hb_56, hO⟩
   replace h := hI_53 seen2 last2 far2 k2 h hb_56
   refine hw_seq (hw_region (hl_v (v_lss rfl rfl) rfl (hl_nil (thenQ_n (hw_seq (hw_cond rfl (fun hc_57 => ?_) (fun hc_57 => ?_)))))))
   ·replace h := ite_t h hc_57
    refine hw_skip (thenQ_n (hw_seq (hw_block (hw_seq (hw_region (hl_v (v_ixL Try.underlying25 Try.sizeOf45 rfl rfl (hO.fsl 8 rfl) (by exact ⟨Int.natCast_nonneg _, of_decide_eq_true hc_57⟩)) rfl (hl_v (v_loadFl Try.isAgg45 Try.sizeOf45 rfl (hO.fsl 8 rfl) rfl (by exact ⟨Int.natCast_nonneg _, of_decide_eq_true hc_57⟩)) rfl (hl_h (o_alloc (cs := (fGTip.enc (⟨(0 : Int), ([] : List UInt8)⟩ : GTip))) hO Try.zeroValue45 rfl) rfl ?_))))))))
    rintro _ H_58 ⟨b_59, rfl, hO⟩
    refine hl_s (o_storeA (us := (fGTip.enc ((((tTrim t).1).Starts).getD k2 default))) hO 0 rfl Try.sizeOf45 rfl rfl rfl rfl (by intro u hu; exact (fGTip).one _ u hu)) ?_
    rintro _ H_60 hO
    refine hl_nil (thenQ_n (hw_sub _ (a_c 1 rfl (a_c 6 rfl (a_c 7 rfl (a_c 8 rfl (a_c 9 rfl (a_c 11 rfl (a_c 13 rfl (a_c 30 rfl (a_c 31 rfl (a_c 32 rfl (a_c 37 rfl (a_c 38 rfl (a_c 39 rfl a_n))))))))))))) (hw_held (fun H' => ∃ Z' : Nat → Prop, Own H' Z' (box b_59 (fGTip.enc ((((tTrim t).1).Starts).getD k2 default)) 45 :: box b_47 (fGTip.enc ((((tTrim t).1).Starts).getD k default)) 45 :: box b_34 [.func (.func 17) #[] #[ptr b_26 0, ptr b_29 0, ptr b_31 0, ptr b_19 0]] 43 :: box b_19 [.int .i64 ((tTrim t).2.1)] 3 :: fz fGTip.rep v_9 (((tTrim t).1).Starts) :: fz fGTip.rep v_11 (((tTrim t).1).Ends) :: fz fGArc.rep v_13 (((tTrim t).1).Arcs) :: box b_8 [.int .i64 (((tTrim t).1).States), v_9, v_11, v_13] 28 :: szA H.size :: inZ Z :: L)) (.step 0 false (.step 1 false (.step 2 false (.step 3 false (.step 4 false (.step 5 false (.step 6 false (.step 7 false (.step 8 false (.step 9 true (.step 10 true .done))))))))))) Try.mixed (by kernel_rfl) ⟨_, (Own.sel (Ls := [box b_59 (fGTip.enc ((((tTrim t).1).Starts).getD k2 default)) 45, box b_47 (fGTip.enc ((((tTrim t).1).Starts).getD k default)) 45, own fGtwin_lag 42 v_50 last2, box b_34 [.func (.func 17) #[] #[ptr b_26 0, ptr b_29 0, ptr b_31 0, ptr b_19 0]] 43, box b_31 [.bool far2] 4, box b_29 [v_50] 40, box b_26 [.map (some b_49)] 39, tbl (aggOf fGtwin_lag) Value.bool b_49 seen2, box b_19 [.int .i64 ((tTrim t).2.1)] 3, fz fGTip.rep v_9 (((tTrim t).1).Starts), fz fGTip.rep v_11 (((tTrim t).1).Ends), fz fGArc.rep v_13 (((tTrim t).1).Arcs), box b_8 [.int .i64 (((tTrim t).1).States), v_9, v_11, v_13] 28, szA H.size, inZ Z]) (L := L) [0, 1, 3, 8, 9, 10, 11, 12, 13, 14] rfl hO)⟩ ?_)))
    refine hd_v rfl (fun H' hS => by obtain ⟨Z', hO⟩ := hS; exact (v_load1 Try.isAgg43 rfl (Blk.cell (hO.box 2 rfl) rfl))) rfl (hd_v rfl (fun _ _ => (v_fieldA Try.underlying45 rfl Try.sizeOf3 rfl)) rfl (hd_v rfl (fun H' hS => by obtain ⟨Z', hO⟩ := hS; exact (v_load1 Try.isAgg3 rfl (Blk.cell (hO.box 1 rfl) rfl))) rfl (hd_v rfl (fun _ _ => (v_fieldA Try.underlying45 rfl Try.sizeOf3 rfl)) rfl (hd_v rfl (fun H' hS => by obtain ⟨Z', hO⟩ := hS; exact (v_load1 Try.isAgg3 rfl (Blk.cell (hO.box 0 rfl) rfl))) rfl (hd_v rfl (fun _ _ => (v_fieldA Try.underlying45 rfl Try.sizeOf9 rfl)) rfl (hd_v rfl (fun H' hS => by obtain ⟨Z', hO⟩ := hS; exact (v_load1 Try.isAgg9 rfl (Blk.cell (hO.box 1 rfl) rfl))) rfl (hd_v rfl (fun _ _ => (v_fieldA Try.underlying45 rfl Try.sizeOf9 rfl)) rfl (hd_v rfl (fun H' hS => by obtain ⟨Z', hO⟩ := hS; exact (v_load1 Try.isAgg9 rfl (Blk.cell (hO.box 0 rfl) rfl))) rfl ?_))))))))
    obtain ⟨hs_61, h⟩ := h
    refine hd_h (h_call Try.call18 (evs_cons rfl (evs_cons rfl (evs_cons rfl (evs_cons rfl evs_nil)))) (twinOf_spec (a0 := ((((tTrim t).1).Starts).getD k default).State) (a1 := ((((tTrim t).1).Starts).getD k2 default).State) (a2 := ((((tTrim t).1).Starts).getD k default).Out) (a3 := ((((tTrim t).1).Starts).getD k2 default).Out) hs_61 hO)) (by rintro _ H_62 ⟨Z_63, _, rfl, hO⟩; exact ⟨_, (Own.sel (Ls := [box b_59 (fGTip.enc ((((tTrim t).1).Starts).getD k2 default)) 45, box b_47 (fGTip.enc ((((tTrim t).1).Starts).getD k default)) 45, own fGtwin_lag 42 v_50 last2, box b_34 [.func (.func 17) #[] #[ptr b_26 0, ptr b_29 0, ptr b_31 0, ptr b_19 0]] 43, box b_31 [.bool far2] 4, box b_29 [v_50] 40, box b_26 [.map (some b_49)] 39, tbl (aggOf fGtwin_lag) Value.bool b_49 seen2, box b_19 [.int .i64 ((tTrim t).2.1)] 3, fz fGTip.rep v_9 (((tTrim t).1).Starts), fz fGTip.rep v_11 (((tTrim t).1).Ends), fz fGArc.rep v_13 (((tTrim t).1).Arcs), box b_8 [.int .i64 (((tTrim t).1).States), v_9, v_11, v_13] 28, szA H.size, inZ Z]) (L := L) [0, 1, 3, 8, 9, 10, 11, 12, 13, 14] rfl hO)⟩) rfl ?_
    rintro _ H_62 ⟨Z_63, _, rfl, hO⟩
    obtain ⟨hs_65, h⟩ := h
    refine hd_h (h_callv (fs := []) (cs := [ptr b_26 0, ptr b_29 0, ptr b_31 0, ptr b_19 0]) Try.call17 rfl (evs_cons rfl evs_nil) (twinPut_spec (a0 := (tOf (((((tTrim t).1).Starts).getD k default).State) (((((tTrim t).1).Starts).getD k2 default).State) (((((tTrim t).1).Starts).getD k default).Out) (((((tTrim t).1).Starts).getD k2 default).Out))) (a1 := seen2) (a2 := last2) (a3 := far2) (a4 := (tTrim t).2.1) (L := box b_59 (fGTip.enc ((((tTrim t).1).Starts).getD k2 default)) 45 :: box b_47 (fGTip.enc ((((tTrim t).1).Starts).getD k default)) 45 :: box b_34 [.func (.func 17) #[] #[ptr b_26 0, ptr b_29 0, ptr b_31 0, ptr b_19 0]] 43 :: box b_19 [.int .i64 ((tTrim t).2.1)] 3 :: fz fGTip.rep v_9 (((tTrim t).1).Starts) :: fz fGTip.rep v_11 (((tTrim t).1).Ends) :: fz fGArc.rep v_13 (((tTrim t).1).Arcs) :: box b_8 [.int .i64 (((tTrim t).1).States), v_9, v_11, v_13] 28 :: szA H.size :: inZ Z :: L) hs_65 (Own.sel (Ls := [box b_59 (fGTip.enc ((((tTrim t).1).Starts).getD k2 default)) 45, box b_47 (fGTip.enc ((((tTrim t).1).Starts).getD k default)) 45, own fGtwin_lag 42 v_50 last2, box b_34 [.func (.func 17) #[] #[ptr b_26 0, ptr b_29 0, ptr b_31 0, ptr b_19 0]] 43, box b_31 [.bool far2] 4, box b_29 [v_50] 40, box b_26 [.map (some b_49)] 39, tbl (aggOf fGtwin_lag) Value.bool b_49 seen2, box b_19 [.int .i64 ((tTrim t).2.1)] 3, fz fGTip.rep v_9 (((tTrim t).1).Starts), fz fGTip.rep v_11 (((tTrim t).1).Ends), fz fGArc.rep v_13 (((tTrim t).1).Arcs), box b_8 [.int .i64 (((tTrim t).1).States), v_9, v_11, v_13] 28, szA H.size, inZ Z]) (L := L) [6, 7, 5, 2, 4, 0, 1, 3, 8, 9, 10, 11, 12, 13, 14] rfl hO) (Bx.of (i := 3) rfl))) (by rintro _ H_66 ⟨Z_67, v_70, b_69, _, rfl, hO⟩; exact ⟨_, (Own.sel (Ls := [box b_26 [.map (some b_69)] 39, tbl (aggOf fGtwin_lag) Value.bool b_69 (((tPut ((tTrim t).2.1) (tOf (((((tTrim t).1).Starts).getD k default).State) (((((tTrim t).1).Starts).getD k2 default).State) (((((tTrim t).1).Starts).getD k default).Out) (((((tTrim t).1).Starts).getD k2 default).Out)) (seen2, last2, far2))).1), box b_29 [v_70] 40, own fGtwin_lag 42 v_70 (((tPut ((tTrim t).2.1) (tOf (((((tTrim t).1).Starts).getD k default).State) (((((tTrim t).1).Starts).getD k2 default).State) (((((tTrim t).1).Starts).getD k default).Out) (((((tTrim t).1).Starts).getD k2 default).Out)) (seen2, last2, far2))).2.1), box b_31 [.bool (((tPut ((tTrim t).2.1) (tOf (((((tTrim t).1).Starts).getD k default).State) (((((tTrim t).1).Starts).getD k2 default).State) (((((tTrim t).1).Starts).getD k default).Out) (((((tTrim t).1).Starts).getD k2 default).Out)) (seen2, last2, far2))).2.2)] 4, box b_59 (fGTip.enc ((((tTrim t).1).Starts).getD k2 default)) 45, box b_47 (fGTip.enc ((((tTrim t).1).Starts).getD k default)) 45, box b_34 [.func (.func 17) #[] #[ptr b_26 0, ptr b_29 0, ptr b_31 0, ptr b_19 0]] 43, box b_19 [.int .i64 ((tTrim t).2.1)] 3, fz fGTip.rep v_9 (((tTrim t).1).Starts), fz fGTip.rep v_11 (((tTrim t).1).Ends), fz fGArc.rep v_13 (((tTrim t).1).Arcs), box b_8 [.int .i64 (((tTrim t).1).States), v_9, v_11, v_13] 28, szA H.size, inZ Z]) (L := L) [5, 6, 7, 8, 9, 10, 11, 12, 13, 14] rfl hO)⟩) rfl ?_
    rintro _ H_66 ⟨Z_67, v_70, b_69, _, rfl, hO⟩
    refine hd_nil (blockQ_n (thenQ_n (hw_region (hl_v (v_add rfl rfl (by have hq := of_decide_eq_true hc_57; have hm := hln_36; constructor <;> omega)) rfl (hl_v (v_move rfl) rfl (hl_nil (thenQ_n ?_)))))))
    exact ⟨_, _, (a_c 1 rfl (a_c 6 rfl (a_c 7 rfl (a_c 8 rfl (a_c 9 rfl (a_c 11 rfl (a_c 30 rfl (a_c 31 rfl (a_c 32 rfl (a_c 37 rfl (a_c 38 rfl (a_c 39 rfl a_n)))))))))))), ⟨((tPut ((tTrim t).2.1) (tOf (((((tTrim t).1).Starts).getD k default).State) (((((tTrim t).1).Starts).getD k2 default).State) (((((tTrim t).1).Starts).getD k default).Out) (((((tTrim t).1).Starts).getD k2 default).Out)) (seen2, last2, far2))).1, ((tPut ((tTrim t).2.1) (tOf (((((tTrim t).1).Starts).getD k default).State) (((((tTrim t).1).Starts).getD k2 default).State) (((((tTrim t).1).Starts).getD k default).Out) (((((tTrim t).1).Starts).getD k2 default).Out)) (seen2, last2, far2))).2.1, ((tPut ((tTrim t).2.1) (tOf (((((tTrim t).1).Starts).getD k default).State) (((((tTrim t).1).Starts).getD k2 default).State) (((((tTrim t).1).Starts).getD k default).Out) (((((tTrim t).1).Starts).getD k2 default).Out)) (seen2, last2, far2))).2.2, k2 + 1, b_69, v_70, _, rfl, rfl, h, (by have hq := of_decide_eq_true hc_57; omega), (Own.sel (Ls := [box b_26 [.map (some b_69)] 39, tbl (aggOf fGtwin_lag) Value.bool b_69 (((tPut ((tTrim t).2.1) (tOf (((((tTrim t).1).Starts).getD k default).State) (((((tTrim t).1).Starts).getD k2 default).State) (((((tTrim t).1).Starts).getD k default).Out) (((((tTrim t).1).Starts).getD k2 default).Out)) (seen2, last2, far2))).1), box b_29 [v_70] 40, own fGtwin_lag 42 v_70 (((tPut ((tTrim t).2.1) (tOf (((((tTrim t).1).Starts).getD k default).State) (((((tTrim t).1).Starts).getD k2 default).State) (((((tTrim t).1).Starts).getD k default).Out) (((((tTrim t).1).Starts).getD k2 default).Out)) (seen2, last2, far2))).2.1), box b_31 [.bool (((tPut ((tTrim t).2.1) (tOf (((((tTrim t).1).Starts).getD k default).State) (((((tTrim t).1).Starts).getD k2 default).State) (((((tTrim t).1).Starts).getD k default).Out) (((((tTrim t).1).Starts).getD k2 default).Out)) (seen2, last2, far2))).2.2)] 4, box b_59 (fGTip.enc ((((tTrim t).1).Starts).getD k2 default)) 45, box b_47 (fGTip.enc ((((tTrim t).1).Starts).getD k default)) 45, box b_34 [.func (.func 17) #[] #[ptr b_26 0, ptr b_29 0, ptr b_31 0, ptr b_19 0]] 43, box b_19 [.int .i64 ((tTrim t).2.1)] 3, fz fGTip.rep v_9 (((tTrim t).1).Starts), fz fGTip.rep v_11 (((tTrim t).1).Ends), fz fGArc.rep v_13 (((tTrim t).1).Arcs), box b_8 [.int .i64 (((tTrim t).1).States), v_9, v_11, v_13] 28, szA H.size, inZ Z]) (L := L) [6, 3, 7, 4, 2, 0, 1, 8, 9, 10, 11, 12, 13, 14] rfl hO)⟩, (by have hq := of_decide_eq_true hc_57; omega)⟩
   ·replace h := ite_f h hc_57
    refine hw_exit (thenQ_e (thenQ_e (blockQ_hit (blockQ_n (thenQ_n (hw_region (hl_v (v_add rfl rfl (by have hq := of_decide_eq_true hc_45; have hm := hln_36; constructor <;> omega)) rfl (hl_v (v_move rfl) rfl (hl_nil (thenQ_n ?_))))))))))
    exact ⟨_, _, (a_c 1 rfl (a_c 6 rfl (a_c 7 rfl (a_c 8 rfl (a_c 9 rfl (a_c 30 rfl (a_c 31 rfl (a_c 32 rfl a_n)))))))), ⟨seen2, last2, far2, k + 1, b_49, v_50, _, rfl, rfl, h, (by have hq := of_decide_eq_true hc_45; omega), (Own.sel (Ls := [box b_47 (fGTip.enc ((((tTrim t).1).Starts).getD k default)) 45, own fGtwin_lag 42 v_50 last2, box b_34 [.func (.func 17) #[] #[ptr b_26 0, ptr b_29 0, ptr b_31 0, ptr b_19 0]] 43, box b_31 [.bool far2] 4, box b_29 [v_50] 40, box b_26 [.map (some b_49)] 39, tbl (aggOf fGtwin_lag) Value.bool b_49 seen2, box b_19 [.int .i64 ((tTrim t).2.1)] 3, fz fGTip.rep v_9 (((tTrim t).1).Starts), fz fGTip.rep v_11 (((tTrim t).1).Ends), fz fGArc.rep v_13 (((tTrim t).1).Arcs), box b_8 [.int .i64 (((tTrim t).1).States), v_9, v_11, v_13] 28, szA H.size, inZ Z]) (L := L) [1, 2, 3, 4, 5, 6, 7, 8, 9, 10, 11, 12, 13] rfl hO)⟩, (by have hq := of_decide_eq_true hc_45; omega)⟩
  ·replace h := ite_f h hc_45
   refine hw_exit (thenQ_e (thenQ_e (blockQ_hit (thenQ_n (hw_block ?_)))))
   obtain ⟨I_73, μ_74, h, hI_75⟩ := h
   refine hw_lp (fun n' g' H' => ∃ (seen3 : List (Gtwin_lag × Bool)) (last3 : List Gtwin_lag) (far3 : Bool) (b_71 : Nat) (v_72 : Value) (Z' : Nat → Prop), n' = μ_74 seen3 last3 far3 ∧ g' = [(1, ptr b_8 0), (6, ptr b_26 0), (7, ptr b_29 0), (8, ptr b_31 0), (9, ptr b_34 0)] ∧ I_73 seen3 last3 far3 ∧ Own H' Z' (own fGtwin_lag 42 v_72 last3 :: box b_34 [.func (.func 17) #[] #[ptr b_26 0, ptr b_29 0, ptr b_31 0, ptr b_19 0]] 43 :: box b_31 [.bool far3] 4 :: box b_29 [v_72] 40 :: box b_26 [.map (some b_71)] 39 :: tbl (aggOf fGtwin_lag) Value.bool b_71 seen3 :: box b_19 [.int .i64 ((tTrim t).2.1)] 3 :: fz fGTip.rep v_9 (((tTrim t).1).Starts) :: fz fGTip.rep v_11 (((tTrim t).1).Ends) :: fz fGArc.rep v_13 (((tTrim t).1).Arcs) :: box b_8 [.int .i64 (((tTrim t).1).States), v_9, v_11, v_13] 28 :: szA H.size :: inZ Z :: L)) _ _ (a_c 1 rfl (a_c 6 rfl (a_c 7 rfl (a_c 8 rfl (a_c 9 rfl a_n))))) ⟨seen, last, far, b_37, v_38, _, rfl, rfl, h, hO⟩ ?_
   rintro _ _ H_76 ⟨seen3, last3, far3, b_71, v_72, Z_77, rfl, rfl, h, hO⟩
   replace h := hI_75 seen3 last3 far3 h
   refine hw_block (hw_seq (hw_block (hw_seq (hw_region (hl_v (v_load1 Try.isAgg4 rfl (Blk.cell (hO.box 2 rfl) rfl)) rfl (hl_v (v_assign rfl) rfl (hl_nil (thenQ_n (hw_cond rfl (fun hc_79 => ?_) (fun hc_79 => ?_))))))))))
   ·replace h := ite_t h hc_79
    refine hw_seq (hw_region (hl_v (v_assign rfl) rfl (hl_v (v_assign rfl) rfl (hl_nil (thenQ_n (hw_ret (blockQ_r (thenQ_r (blockQ_r (thenQ_r (blockQ_r (retm_i (fun G' hsh => ?_)))))))))))))
    replace hO := hO.shutB hsh
    refine ⟨_, (ra_t rfl (ra_t rfl ra_nil)), ?_⟩
    exact ⟨_, false, 0, (hO.inz 12 rfl), h, rfl, (Own.sel (Ls := [own fGtwin_lag 42 v_72 last3, box b_34 [.func (.func 17) #[] #[ptr b_26 0, ptr b_29 0, ptr b_31 0, ptr b_19 0]] 43, box b_31 [.bool far3] 4, box b_29 [v_72] 40, box b_26 [.map (some b_71)] 39, tbl (aggOf fGtwin_lag) Value.bool b_71 seen3, box b_19 [.int .i64 ((tTrim t).2.1)] 3, fz fGTip.rep v_9 (((tTrim t).1).Starts), fz fGTip.rep v_11 (((tTrim t).1).Ends), fz fGArc.rep v_13 (((tTrim t).1).Arcs), box b_8 [.int .i64 (((tTrim t).1).States), v_9, v_11, v_13] 28, szA H.size, inZ Z]) (L := L) [] rfl hO)⟩
   ·replace h := ite_f h hc_79
    refine hw_seq (hw_region (hl_v (v_load1 Try.isAgg39 rfl (Blk.cell (hO.box 4 rfl) rfl)) rfl (hl_v (v_lenM rfl Try.underlying39 rfl (hO.tbl 5 rfl)) rfl (hl_v (v_gtr rfl rfl) rfl (hl_v (v_assign rfl) rfl (hl_nil (thenQ_n (hw_cond rfl (fun hc_80 => ?_) (fun hc_80 => ?_)))))))))
    ·replace h := ite_t h hc_80
     refine hw_seq (hw_region (hl_v (v_assign rfl) rfl (hl_v (v_assign rfl) rfl (hl_nil (thenQ_n (hw_ret (blockQ_r (thenQ_r (blockQ_r (thenQ_r (blockQ_r (retm_i (fun G' hsh => ?_)))))))))))))
     replace hO := hO.shutB hsh
     refine ⟨_, (ra_t rfl (ra_t rfl ra_nil)), ?_⟩
     exact ⟨_, false, 2, (hO.inz 12 rfl), h, rfl, (Own.sel (Ls := [own fGtwin_lag 42 v_72 last3, box b_34 [.func (.func 17) #[] #[ptr b_26 0, ptr b_29 0, ptr b_31 0, ptr b_19 0]] 43, box b_31 [.bool far3] 4, box b_29 [v_72] 40, box b_26 [.map (some b_71)] 39, tbl (aggOf fGtwin_lag) Value.bool b_71 seen3, box b_19 [.int .i64 ((tTrim t).2.1)] 3, fz fGTip.rep v_9 (((tTrim t).1).Starts), fz fGTip.rep v_11 (((tTrim t).1).Ends), fz fGArc.rep v_13 (((tTrim t).1).Arcs), box b_8 [.int .i64 (((tTrim t).1).States), v_9, v_11, v_13] 28, szA H.size, inZ Z]) (L := L) [] rfl hO)⟩
    ·replace h := ite_f h hc_80
     refine hw_seq (hw_region (hl_v (v_load1 Try.isAgg40 rfl (Blk.cell (hO.box 3 rfl) rfl)) rfl ?_))
     have hln_81 := Sl.cap (hO.osl 0 rfl)
     refine hl_v (v_lenL rfl Try.underlying40 rfl (hO.osl 0 rfl)) rfl (hl_v (v_eql rfl rfl) rfl (hl_v (v_assign rfl) rfl (hl_nil (thenQ_n (hw_sub _ (a_c 1 rfl (a_c 6 rfl (a_c 7 rfl (a_c 8 rfl (a_c 9 rfl (a_c 62 rfl a_n)))))) (hw_cond rfl (fun hc_82 => ?_) (fun hc_82 => ?_)))))))
     ·replace h := ite_t h hc_82
      refine hw_seq (hw_region (hl_v (v_assign rfl) rfl (hl_v (v_assign rfl) rfl (hl_nil (thenQ_n (hw_ret (blockQ_r (thenQ_r (blockQ_r (thenQ_r (blockQ_r (retm_i (fun G' hsh => ?_)))))))))))))
      replace hO := hO.shutB hsh
      refine ⟨_, (ra_t rfl (ra_t rfl ra_nil)), ?_⟩
      exact ⟨_, true, 0, (hO.inz 12 rfl), h, rfl, (Own.sel (Ls := [own fGtwin_lag 42 v_72 last3, box b_34 [.func (.func 17) #[] #[ptr b_26 0, ptr b_29 0, ptr b_31 0, ptr b_19 0]] 43, box b_31 [.bool far3] 4, box b_29 [v_72] 40, box b_26 [.map (some b_71)] 39, tbl (aggOf fGtwin_lag) Value.bool b_71 seen3, box b_19 [.int .i64 ((tTrim t).2.1)] 3, fz fGTip.rep v_9 (((tTrim t).1).Starts), fz fGTip.rep v_11 (((tTrim t).1).Ends), fz fGArc.rep v_13 (((tTrim t).1).Arcs), box b_8 [.int .i64 (((tTrim t).1).States), v_9, v_11, v_13] 28, szA H.size, inZ Z]) (L := L) [] rfl hO)⟩
     ·replace h := ite_f h hc_82
      refine hw_skip (blockQ_n (thenQ_n (hw_seq (hw_region (hl_v (v_load1 Try.isAgg40 rfl (Blk.cell (hO.box 3 rfl) rfl)) rfl (hl_v (v_assign rfl) rfl (hl_nil (thenQ_n (hw_seq (hw_region (hl_s (o_store1 hO 3 rfl Try.sizeOf40 rfl rfl rfl rfl) ?_)))))))))))
      rintro _ H_83 hO
      refine hl_nil (thenQ_n (hw_seq (hw_region (hl_v (v_move rfl) rfl (hl_v (v_lenL rfl Try.underlying40 rfl (hO.osl 0 rfl)) rfl (hl_v (v_move rfl) rfl (hl_nil (thenQ_n (hw_block ?_)))))))))
      obtain ⟨I_86, h, hI_88⟩ := h
      replace hO := hO.nil fGtwin_lag 42
      refine hw_lp (fun n' g' H' => ∃ (seen4 : List (Gtwin_lag × Bool)) (last4 : List Gtwin_lag) (far4 : Bool) (k3 : Nat) (b_84 : Nat) (v_85 : Value) (Z' : Nat → Prop), n' = last3.length - k3 ∧ g' = [(1, ptr b_8 0), (6, ptr b_26 0), (7, ptr b_29 0), (8, ptr b_31 0), (9, ptr b_34 0), (67, v_72), (68, .int .i64 (last3.length : Int)), (69, .int .i64 (k3 : Int))] ∧ I_86 seen4 last4 far4 k3 ∧ k3 ≤ last3.length ∧ Own H' Z' (own fGtwin_lag 42 v_85 last4 :: own fGtwin_lag 42 v_72 last3 :: box b_34 [.func (.func 17) #[] #[ptr b_26 0, ptr b_29 0, ptr b_31 0, ptr b_19 0]] 43 :: box b_31 [.bool far4] 4 :: box b_29 [v_85] 40 :: box b_26 [.map (some b_84)] 39 :: tbl (aggOf fGtwin_lag) Value.bool b_84 seen4 :: box b_19 [.int .i64 ((tTrim t).2.1)] 3 :: fz fGTip.rep v_9 (((tTrim t).1).Starts) :: fz fGTip.rep v_11 (((tTrim t).1).Ends) :: fz fGArc.rep v_13 (((tTrim t).1).Arcs) :: box b_8 [.int .i64 (((tTrim t).1).States), v_9, v_11, v_13] 28 :: szA H.size :: inZ Z :: L)) _ _ (a_c 1 rfl (a_c 6 rfl (a_c 7 rfl (a_c 8 rfl (a_c 9 rfl (a_c 67 rfl (a_c 68 rfl (a_c 69 rfl a_n)))))))) ⟨seen3, [], far3, 0, b_71, .slice none 0 0, _, rfl, rfl, h, by omega, hO⟩ ?_
      rintro _ _ H_89 ⟨seen4, last4, far4, k3, b_84, v_85, Z_90, rfl, rfl, h, hb_91, hO⟩
      replace h := hI_88 seen4 last4 far4 k3 h hb_91
      refine hw_seq (hw_region (hl_v (v_lss rfl rfl) rfl (hl_nil (thenQ_n (hw_seq (hw_cond rfl (fun hc_92 => ?_) (fun hc_92 => ?_)))))))
      ·replace h := ite_t h hc_92
       refine hw_skip (thenQ_n (hw_seq (hw_block (hw_seq (hw_region (hl_v (v_ixL Try.underlying40 Try.sizeOf42 rfl rfl (hO.osl 1 rfl) (by exact ⟨Int.natCast_nonneg _, of_decide_eq_true hc_92⟩)) rfl (hl_v (v_loadFl Try.isAgg42 Try.sizeOf42 rfl (hO.osl 1 rfl) rfl (by exact ⟨Int.natCast_nonneg _, of_decide_eq_true hc_92⟩)) rfl (hl_h (o_alloc (cs := (fGtwin_lag.enc (⟨(0 : Int), (0 : Int), ([] : List UInt8), ([] : List UInt8)⟩ : Gtwin_lag))) hO Try.zeroValue42 rfl) rfl ?_))))))))
       rintro _ H_93 ⟨b_94, rfl, hO⟩
       refine hl_s (o_storeA (us := (fGtwin_lag.enc (last3.getD k3 default))) hO 0 rfl Try.sizeOf42 rfl rfl rfl rfl (by intro u hu; exact (fGtwin_lag).one _ u hu)) ?_
       rintro _ H_95 hO
       refine hl_nil (thenQ_n (hw_seq (hw_region (hl_v (v_loadA Try.isAgg28 Try.sizeOf28 rfl (Blk.at0 (hO.box 12 rfl)) rfl) rfl (hl_v (v_loadA Try.isAgg42 Try.sizeOf42 rfl (Blk.at0 (hO.box 0 rfl)) rfl) rfl (hl_h (h_call Try.call19 (evs_cons rfl (evs_cons rfl evs_nil)) (twinNext_spec (a0 := ((tTrim t).1)) (a1 := (last3.getD k3 default)) hO (Fz.of (i := 9) rfl) (Fz.of (i := 10) rfl) (Fz.of (i := 11) rfl))) rfl ?_))))))
       rintro _ H_104 ⟨Z_105, v_97, v_99, v_101, b_96, b_103, _, rfl, hO⟩
       refine hl_nil (thenQ_n (hw_sub _ (a_c 1 rfl (a_c 6 rfl (a_c 7 rfl (a_c 8 rfl (a_c 9 rfl (a_c 67 rfl (a_c 68 rfl (a_c 69 rfl (a_c 75 rfl a_n))))))))) (hw_block ?_)))
       replace hO := Sl.item (hO.fsl 2 rfl) hO
       replace hO := Sl.item (hO.fsl 4 rfl) hO
       replace hO := Sl.item (hO.fsl 6 rfl) hO
       obtain ⟨hs_107, h⟩ := h
       obtain ⟨I_110, h, hI_111⟩ := h
       refine hw_rangeO (L0 := fz fGTip.rep v_97 (((((tTrim t).1), (last3.getD k3 default)).1).Starts) :: fz fGTip.rep v_99 (((((tTrim t).1), (last3.getD k3 default)).1).Ends) :: fz fGArc.rep v_101 (((((tTrim t).1), (last3.getD k3 default)).1).Arcs) :: box b_96 [.int .i64 (((((tTrim t).1), (last3.getD k3 default)).1).States), v_97, v_99, v_101] 28 :: box b_103 (fGtwin_lag.enc ((((tTrim t).1), (last3.getD k3 default)).2)) 42 :: L) (caps := [ptr b_96 0, ptr b_103 0]) (xs := (tNext ((((tTrim t).1), (last3.getD k3 default)).1) ((((tTrim t).1), (last3.getD k3 default)).2))) (enc := (fun x => [.agg (fGtwin_lag.enc x).toArray])) (fun k4 => exs (fun Ls => ∃ (seen5 : List (Gtwin_lag × Bool)) (last5 : List Gtwin_lag) (far5 : Bool) (b_108 : Nat) (v_109 : Value) , I_110 seen5 last5 far5 k4 ∧ Ls = [own fGtwin_lag 42 v_109 last5, own fGtwin_lag 42 v_72 last3, box b_34 [.func (.func 17) #[] #[ptr b_26 0, ptr b_29 0, ptr b_31 0, ptr b_19 0]] 43, box b_31 [.bool far5] 4, box b_29 [v_109] 40, box b_26 [.map (some b_108)] 39, tbl (aggOf fGtwin_lag) Value.bool b_108 seen5, box b_19 [.int .i64 ((tTrim t).2.1)] 3, fz fGTip.rep v_9 (((tTrim t).1).Starts), fz fGTip.rep v_11 (((tTrim t).1).Ends), fz fGArc.rep v_13 (((tTrim t).1).Arcs), box b_8 [.int .i64 (((tTrim t).1).States), v_9, v_11, v_13] 28, szA H.size, inZ Z])) (fun _ => ffA) rfl Try.call30 (twinNext1_spec (a0 := ((((tTrim t).1), (last3.getD k3 default)).1)) (a1 := (((tTrim t).1), (last3.getD k3 default)).2) (L := fz fGTip.rep v_97 (((((tTrim t).1), (last3.getD k3 default)).1).Starts) :: fz fGTip.rep v_99 (((((tTrim t).1), (last3.getD k3 default)).1).Ends) :: fz fGArc.rep v_101 (((((tTrim t).1), (last3.getD k3 default)).1).Arcs) :: box b_96 [.int .i64 (((((tTrim t).1), (last3.getD k3 default)).1).States), v_97, v_99, v_101] 28 :: box b_103 (fGtwin_lag.enc ((((tTrim t).1), (last3.getD k3 default)).2)) 42 :: L) hs_107 (Fz.of (i := 0) rfl) (Fz.of (i := 1) rfl) (Fz.of (i := 2) rfl) (Bx.of (i := 3) rfl) (Bx.of (i := 4) rfl)) rfl (fun _ => rfl) (hO.szO 21 rfl) (Own.cls (Ls := [own fGtwin_lag 42 v_85 last4, own fGtwin_lag 42 v_72 last3, box b_34 [.func (.func 17) #[] #[ptr b_26 0, ptr b_29 0, ptr b_31 0, ptr b_19 0]] 43, box b_31 [.bool far4] 4, box b_29 [v_85] 40, box b_26 [.map (some b_84)] 39, tbl (aggOf fGtwin_lag) Value.bool b_84 seen4, box b_19 [.int .i64 ((tTrim t).2.1)] 3, fz fGTip.rep v_9 (((tTrim t).1).Starts), fz fGTip.rep v_11 (((tTrim t).1).Ends), fz fGArc.rep v_13 (((tTrim t).1).Arcs), box b_8 [.int .i64 (((tTrim t).1).States), v_9, v_11, v_13] 28, szA H.size, inZ Z]) (Own.sel (Ls := [fz fGArc.rep v_101 (((((tTrim t).1), (last3.getD k3 default)).1).Arcs), fz fGTip.rep v_99 (((((tTrim t).1), (last3.getD k3 default)).1).Ends), fz fGTip.rep v_97 (((((tTrim t).1), (last3.getD k3 default)).1).Starts), box b_96 [.int .i64 (((((tTrim t).1), (last3.getD k3 default)).1).States), v_97, v_99, v_101] 28, box b_103 (fGtwin_lag.enc ((((tTrim t).1), (last3.getD k3 default)).2)) 42, fz fGTip.rep v_97 (((((tTrim t).1), (last3.getD k3 default)).1).Starts), fz fGTip.rep v_99 (((((tTrim t).1), (last3.getD k3 default)).1).Ends), fz fGArc.rep v_101 (((((tTrim t).1), (last3.getD k3 default)).1).Arcs), box b_94 (fGtwin_lag.enc (last3.getD k3 default)) 42, own fGtwin_lag 42 v_85 last4, own fGtwin_lag 42 v_72 last3, box b_34 [.func (.func 17) #[] #[ptr b_26 0, ptr b_29 0, ptr b_31 0, ptr b_19 0]] 43, box b_31 [.bool far4] 4, box b_29 [v_85] 40, box b_26 [.map (some b_84)] 39, tbl (aggOf fGtwin_lag) Value.bool b_84 seen4, box b_19 [.int .i64 ((tTrim t).2.1)] 3, fz fGTip.rep v_9 (((tTrim t).1).Starts), fz fGTip.rep v_11 (((tTrim t).1).Ends), fz fGArc.rep v_13 (((tTrim t).1).Arcs), box b_8 [.int .i64 (((tTrim t).1).States), v_9, v_11, v_13] 28, szA H.size, inZ Z]) (L := L) [9, 10, 11, 12, 13, 14, 15, 16, 17, 18, 19, 20, 21, 22, 2, 1, 0, 3, 4] rfl hO) ⟨seen4, last4, far4, b_84, v_85, h, rfl⟩) ?_ ?_ (fun c Z G hO => hO.never.elim)
       ·rintro k4 _ hk_114 rfl L tl_115 Z_113 H_112 hO
        obtain ⟨_, ⟨seen5, last5, far5, b_108, v_109, hJ, rfl⟩, hO⟩ := hO.opn
        replace hO : Own H_112 Z_113 (own fGtwin_lag 42 v_109 last5 :: own fGtwin_lag 42 v_72 last3 :: box b_34 [.func (.func 17) #[] #[ptr b_26 0, ptr b_29 0, ptr b_31 0, ptr b_19 0]] 43 :: box b_31 [.bool far5] 4 :: box b_29 [v_109] 40 :: box b_26 [.map (some b_108)] 39 :: tbl (aggOf fGtwin_lag) Value.bool b_108 seen5 :: box b_19 [.int .i64 ((tTrim t).2.1)] 3 :: fz fGTip.rep v_9 (((tTrim t).1).Starts) :: fz fGTip.rep v_11 (((tTrim t).1).Ends) :: fz fGArc.rep v_13 (((tTrim t).1).Arcs) :: box b_8 [.int .i64 (((tTrim t).1).States), v_9, v_11, v_13] 28 :: szA H.size :: inZ Z :: L) := hO
        replace h := ite_t (hI_111 seen5 last5 far5 k4 hJ (Nat.le_of_lt hk_114)) (decide_eq_true (Int.ofNat_lt.2 hk_114))
        refine hw_region (hl_h (o_alloc (cs := (fGtwin_lag.enc (⟨(0 : Int), (0 : Int), ([] : List UInt8), ([] : List UInt8)⟩ : Gtwin_lag))) hO Try.zeroValue42 rfl) rfl ?_)
        rintro _ H_116 ⟨b_117, rfl, hO⟩
        refine hl_s (o_storeA (us := (fGtwin_lag.enc ((tNext ((((tTrim t).1), (last3.getD k3 default)).1) ((((tTrim t).1), (last3.getD k3 default)).2)).getD k4 default))) hO 0 rfl Try.sizeOf42 rfl rfl rfl rfl (by intro u hu; exact (fGtwin_lag).one _ u hu)) ?_
        rintro _ H_118 hO
        refine hl_nil (⟨rfl, _, ⟨_, Own.cls (S := fun Ls => Ls = [box b_117 (fGtwin_lag.enc ((tNext ((((tTrim t).1), (last3.getD k3 default)).1) ((((tTrim t).1), (last3.getD k3 default)).2)).getD k4 default)) 42, own fGtwin_lag 42 v_109 last5, own fGtwin_lag 42 v_72 last3, box b_34 [.func (.func 17) #[] #[ptr b_26 0, ptr b_29 0, ptr b_31 0, ptr b_19 0]] 43, box b_31 [.bool far5] 4, box b_29 [v_109] 40, box b_26 [.map (some b_108)] 39, tbl (aggOf fGtwin_lag) Value.bool b_108 seen5, box b_19 [.int .i64 ((tTrim t).2.1)] 3, fz fGTip.rep v_9 (((tTrim t).1).Starts), fz fGTip.rep v_11 (((tTrim t).1).Ends), fz fGArc.rep v_13 (((tTrim t).1).Arcs), box b_8 [.int .i64 (((tTrim t).1).States), v_9, v_11, v_13] 28, szA H.size, inZ Z]) (Ls := [box b_117 (fGtwin_lag.enc ((tNext ((((tTrim t).1), (last3.getD k3 default)).1) ((((tTrim t).1), (last3.getD k3 default)).2)).getD k4 default)) 42, own fGtwin_lag 42 v_109 last5, own fGtwin_lag 42 v_72 last3, box b_34 [.func (.func 17) #[] #[ptr b_26 0, ptr b_29 0, ptr b_31 0, ptr b_19 0]] 43, box b_31 [.bool far5] 4, box b_29 [v_109] 40, box b_26 [.map (some b_108)] 39, tbl (aggOf fGtwin_lag) Value.bool b_108 seen5, box b_19 [.int .i64 ((tTrim t).2.1)] 3, fz fGTip.rep v_9 (((tTrim t).1).Starts), fz fGTip.rep v_11 (((tTrim t).1).Ends), fz fGArc.rep v_13 (((tTrim t).1).Arcs), box b_8 [.int .i64 (((tTrim t).1).States), v_9, v_11, v_13] 28, szA H.size, inZ Z]) hO rfl⟩, ?_⟩)
        rintro L tl_121 Z_120 H_119 hO
        obtain ⟨_, rfl, hO⟩ := hO.opn
        replace hO : Own H_119 Z_120 (box b_117 (fGtwin_lag.enc ((tNext ((((tTrim t).1), (last3.getD k3 default)).1) ((((tTrim t).1), (last3.getD k3 default)).2)).getD k4 default)) 42 :: own fGtwin_lag 42 v_109 last5 :: own fGtwin_lag 42 v_72 last3 :: box b_34 [.func (.func 17) #[] #[ptr b_26 0, ptr b_29 0, ptr b_31 0, ptr b_19 0]] 43 :: box b_31 [.bool far5] 4 :: box b_29 [v_109] 40 :: box b_26 [.map (some b_108)] 39 :: tbl (aggOf fGtwin_lag) Value.bool b_108 seen5 :: box b_19 [.int .i64 ((tTrim t).2.1)] 3 :: fz fGTip.rep v_9 (((tTrim t).1).Starts) :: fz fGTip.rep v_11 (((tTrim t).1).Ends) :: fz fGArc.rep v_13 (((tTrim t).1).Arcs) :: box b_8 [.int .i64 (((tTrim t).1).States), v_9, v_11, v_13] 28 :: szA H.size :: inZ Z :: L) := hO
        replace hf_2 := hf_2.to (Tl.tails [_, _, _, _, _] tl_121)
        replace hf_4 := hf_4.to (Tl.tails [_, _, _, _, _] tl_121)
        replace hf_6 := hf_6.to (Tl.tails [_, _, _, _, _] tl_121)
        refine hw_block (hw_region (hl_v (v_load1 Try.isAgg43 rfl (Blk.cell (hO.box 3 rfl) rfl)) rfl (hl_v (v_loadA Try.isAgg42 Try.sizeOf42 rfl (Blk.at0 (hO.box 0 rfl)) rfl) rfl ?_)))
        obtain ⟨hs_122, h⟩ := h
        refine hl_h (h_callv (fs := []) (cs := [ptr b_26 0, ptr b_29 0, ptr b_31 0, ptr b_19 0]) Try.call17 rfl (evs_cons rfl evs_nil) (twinPut_spec (a0 := ((tNext ((((tTrim t).1), (last3.getD k3 default)).1) ((((tTrim t).1), (last3.getD k3 default)).2)).getD k4 default)) (a1 := seen5) (a2 := last5) (a3 := far5) (a4 := (tTrim t).2.1) (L := box b_117 (fGtwin_lag.enc ((tNext ((((tTrim t).1), (last3.getD k3 default)).1) ((((tTrim t).1), (last3.getD k3 default)).2)).getD k4 default)) 42 :: own fGtwin_lag 42 v_72 last3 :: box b_34 [.func (.func 17) #[] #[ptr b_26 0, ptr b_29 0, ptr b_31 0, ptr b_19 0]] 43 :: box b_19 [.int .i64 ((tTrim t).2.1)] 3 :: fz fGTip.rep v_9 (((tTrim t).1).Starts) :: fz fGTip.rep v_11 (((tTrim t).1).Ends) :: fz fGArc.rep v_13 (((tTrim t).1).Arcs) :: box b_8 [.int .i64 (((tTrim t).1).States), v_9, v_11, v_13] 28 :: szA H.size :: inZ Z :: L) hs_122 (Own.sel (Ls := [box b_117 (fGtwin_lag.enc ((tNext ((((tTrim t).1), (last3.getD k3 default)).1) ((((tTrim t).1), (last3.getD k3 default)).2)).getD k4 default)) 42, own fGtwin_lag 42 v_109 last5, own fGtwin_lag 42 v_72 last3, box b_34 [.func (.func 17) #[] #[ptr b_26 0, ptr b_29 0, ptr b_31 0, ptr b_19 0]] 43, box b_31 [.bool far5] 4, box b_29 [v_109] 40, box b_26 [.map (some b_108)] 39, tbl (aggOf fGtwin_lag) Value.bool b_108 seen5, box b_19 [.int .i64 ((tTrim t).2.1)] 3, fz fGTip.rep v_9 (((tTrim t).1).Starts), fz fGTip.rep v_11 (((tTrim t).1).Ends), fz fGArc.rep v_13 (((tTrim t).1).Arcs), box b_8 [.int .i64 (((tTrim t).1).States), v_9, v_11, v_13] 28, szA H.size, inZ Z]) (L := L) [6, 7, 5, 1, 4, 0, 2, 3, 8, 9, 10, 11, 12, 13, 14] rfl hO) (Bx.of (i := 3) rfl))) rfl ?_
        rintro _ H_123 ⟨Z_124, v_127, b_126, _, rfl, hO⟩
        refine hl_nil (blockQ_n ?_)
        exact ⟨_, Own.cls (Ls := [own fGtwin_lag 42 v_127 (((tPut ((tTrim t).2.1) ((tNext ((((tTrim t).1), (last3.getD k3 default)).1) ((((tTrim t).1), (last3.getD k3 default)).2)).getD k4 default) (seen5, last5, far5))).2.1), own fGtwin_lag 42 v_72 last3, box b_34 [.func (.func 17) #[] #[ptr b_26 0, ptr b_29 0, ptr b_31 0, ptr b_19 0]] 43, box b_31 [.bool (((tPut ((tTrim t).2.1) ((tNext ((((tTrim t).1), (last3.getD k3 default)).1) ((((tTrim t).1), (last3.getD k3 default)).2)).getD k4 default) (seen5, last5, far5))).2.2)] 4, box b_29 [v_127] 40, box b_26 [.map (some b_126)] 39, tbl (aggOf fGtwin_lag) Value.bool b_126 (((tPut ((tTrim t).2.1) ((tNext ((((tTrim t).1), (last3.getD k3 default)).1) ((((tTrim t).1), (last3.getD k3 default)).2)).getD k4 default) (seen5, last5, far5))).1), box b_19 [.int .i64 ((tTrim t).2.1)] 3, fz fGTip.rep v_9 (((tTrim t).1).Starts), fz fGTip.rep v_11 (((tTrim t).1).Ends), fz fGArc.rep v_13 (((tTrim t).1).Arcs), box b_8 [.int .i64 (((tTrim t).1).States), v_9, v_11, v_13] 28, szA H.size, inZ Z]) (Own.sel (Ls := [box b_26 [.map (some b_126)] 39, tbl (aggOf fGtwin_lag) Value.bool b_126 (((tPut ((tTrim t).2.1) ((tNext ((((tTrim t).1), (last3.getD k3 default)).1) ((((tTrim t).1), (last3.getD k3 default)).2)).getD k4 default) (seen5, last5, far5))).1), box b_29 [v_127] 40, own fGtwin_lag 42 v_127 (((tPut ((tTrim t).2.1) ((tNext ((((tTrim t).1), (last3.getD k3 default)).1) ((((tTrim t).1), (last3.getD k3 default)).2)).getD k4 default) (seen5, last5, far5))).2.1), box b_31 [.bool (((tPut ((tTrim t).2.1) ((tNext ((((tTrim t).1), (last3.getD k3 default)).1) ((((tTrim t).1), (last3.getD k3 default)).2)).getD k4 default) (seen5, last5, far5))).2.2)] 4, box b_117 (fGtwin_lag.enc ((tNext ((((tTrim t).1), (last3.getD k3 default)).1) ((((tTrim t).1), (last3.getD k3 default)).2)).getD k4 default)) 42, own fGtwin_lag 42 v_72 last3, box b_34 [.func (.func 17) #[] #[ptr b_26 0, ptr b_29 0, ptr b_31 0, ptr b_19 0]] 43, box b_19 [.int .i64 ((tTrim t).2.1)] 3, fz fGTip.rep v_9 (((tTrim t).1).Starts), fz fGTip.rep v_11 (((tTrim t).1).Ends), fz fGArc.rep v_13 (((tTrim t).1).Arcs), box b_8 [.int .i64 (((tTrim t).1).States), v_9, v_11, v_13] 28, szA H.size, inZ Z]) (L := L) [3, 6, 7, 4, 2, 0, 1, 8, 9, 10, 11, 12, 13, 14] rfl hO) ⟨((tPut ((tTrim t).2.1) ((tNext ((((tTrim t).1), (last3.getD k3 default)).1) ((((tTrim t).1), (last3.getD k3 default)).2)).getD k4 default) (seen5, last5, far5))).1, ((tPut ((tTrim t).2.1) ((tNext ((((tTrim t).1), (last3.getD k3 default)).1) ((((tTrim t).1), (last3.getD k3 default)).2)).getD k4 default) (seen5, last5, far5))).2.1, ((tPut ((tTrim t).2.1) ((tNext ((((tTrim t).1), (last3.getD k3 default)).1) ((((tTrim t).1), (last3.getD k3 default)).2)).getD k4 default) (seen5, last5, far5))).2.2, b_126, v_127, h, rfl⟩⟩
       ·rintro Z_129 H_128 hO
        obtain ⟨_, ⟨seen5, last5, far5, b_108, v_109, hJ, rfl⟩, hO⟩ := hO.opn
        replace hO : Own H_128 Z_129 (own fGtwin_lag 42 v_109 last5 :: own fGtwin_lag 42 v_72 last3 :: box b_34 [.func (.func 17) #[] #[ptr b_26 0, ptr b_29 0, ptr b_31 0, ptr b_19 0]] 43 :: box b_31 [.bool far5] 4 :: box b_29 [v_109] 40 :: box b_26 [.map (some b_108)] 39 :: tbl (aggOf fGtwin_lag) Value.bool b_108 seen5 :: box b_19 [.int .i64 ((tTrim t).2.1)] 3 :: fz fGTip.rep v_9 (((tTrim t).1).Starts) :: fz fGTip.rep v_11 (((tTrim t).1).Ends) :: fz fGArc.rep v_13 (((tTrim t).1).Arcs) :: box b_8 [.int .i64 (((tTrim t).1).States), v_9, v_11, v_13] 28 :: szA H.size :: inZ Z :: L) := Own.sel (Ls := [own fGtwin_lag 42 v_109 last5, own fGtwin_lag 42 v_72 last3, box b_34 [.func (.func 17) #[] #[ptr b_26 0, ptr b_29 0, ptr b_31 0, ptr b_19 0]] 43, box b_31 [.bool far5] 4, box b_29 [v_109] 40, box b_26 [.map (some b_108)] 39, tbl (aggOf fGtwin_lag) Value.bool b_108 seen5, box b_19 [.int .i64 ((tTrim t).2.1)] 3, fz fGTip.rep v_9 (((tTrim t).1).Starts), fz fGTip.rep v_11 (((tTrim t).1).Ends), fz fGArc.rep v_13 (((tTrim t).1).Arcs), box b_8 [.int .i64 (((tTrim t).1).States), v_9, v_11, v_13] 28, szA H.size, inZ Z, fz fGTip.rep v_97 (((((tTrim t).1), (last3.getD k3 default)).1).Starts), fz fGTip.rep v_99 (((((tTrim t).1), (last3.getD k3 default)).1).Ends), fz fGArc.rep v_101 (((((tTrim t).1), (last3.getD k3 default)).1).Arcs), box b_96 [.int .i64 (((((tTrim t).1), (last3.getD k3 default)).1).States), v_97, v_99, v_101] 28, box b_103 (fGtwin_lag.enc ((((tTrim t).1), (last3.getD k3 default)).2)) 42]) (L := L) [0, 1, 2, 3, 4, 5, 6, 7, 8, 9, 10, 11, 12, 13] rfl hO
        replace h := ite_f (hI_111 seen5 last5 far5 _ hJ (Nat.le_refl _)) (decide_eq_false (Int.lt_irrefl _))
        refine blockQ_n (blockQ_n (thenQ_n (hw_region (hl_v (v_add rfl rfl (by have hq := of_decide_eq_true hc_92; have hm := hln_81; constructor <;> omega)) rfl (hl_v (v_move rfl) rfl (hl_nil (thenQ_n ?_)))))))
        exact ⟨_, _, (a_c 1 rfl (a_c 6 rfl (a_c 7 rfl (a_c 8 rfl (a_c 9 rfl (a_c 67 rfl (a_c 68 rfl (a_c 69 rfl a_n)))))))), ⟨seen5, last5, far5, k3 + 1, b_108, v_109, _, rfl, rfl, h, (by have hq := of_decide_eq_true hc_92; omega), hO⟩, (by have hq := of_decide_eq_true hc_92; omega)⟩
      ·replace h := ite_f h hc_92
       refine hw_exit (thenQ_e (thenQ_e (blockQ_hit (blockQ_n (thenQ_n ?_)))))
       exact ⟨_, _, (a_c 1 rfl (a_c 6 rfl (a_c 7 rfl (a_c 8 rfl (a_c 9 rfl a_n))))), ⟨seen4, last4, far4, b_84, v_85, _, rfl, rfl, h.1, (Own.sel (Ls := [own fGtwin_lag 42 v_85 last4, own fGtwin_lag 42 v_72 last3, box b_34 [.func (.func 17) #[] #[ptr b_26 0, ptr b_29 0, ptr b_31 0, ptr b_19 0]] 43, box b_31 [.bool far4] 4, box b_29 [v_85] 40, box b_26 [.map (some b_84)] 39, tbl (aggOf fGtwin_lag) Value.bool b_84 seen4, box b_19 [.int .i64 ((tTrim t).2.1)] 3, fz fGTip.rep v_9 (((tTrim t).1).Starts), fz fGTip.rep v_11 (((tTrim t).1).Ends), fz fGArc.rep v_13 (((tTrim t).1).Arcs), box b_8 [.int .i64 (((tTrim t).1).States), v_9, v_11, v_13] 28, szA H.size, inZ Z]) (L := L) [0, 2, 3, 4, 5, 6, 7, 8, 9, 10, 11, 12, 13] rfl hO)⟩, h.2⟩
theorem twinTwin_spec {a0 : GFst} {v_1 : Value} {v_3 : Value} {v_5 : Value} {L : List As} (hp : a0.Arcs.length ≤ 64) {H : Heap} {Z : Nat → Prop} (hO : Own H Z (L)) (hf_2 : Fz fGTip.rep L v_1 a0.Starts) (hf_4 : Fz fGTip.rep L v_3 a0.Ends) (hf_6 : Fz fGArc.rep L v_5 a0.Arcs) : HC Try.prog 6 [.agg [.int .i64 a0.States, v_1, v_3, v_5].toArray] H (fun v H' => ∃ (Z' : Nat → Prop) , (∀ b, Z b → Z' b) ∧ v = .tuple #[.bool ((tTwin a0).1), .int .i64 ((tTwin a0).2)] ∧ Own H' Z' (L)) := by
  refine (twinTwin_ok (t := a0) (@twinTwin_wp a0 hp) hO hf_2 hf_4 hf_6).mono ?_
  rintro v H' ⟨Z', r0, r1, hz, hq, hv, hO'⟩
  obtain ⟨rfl, rfl⟩ := hq
  exact ⟨Z', hz, hv, hO'⟩

end Go.Proofs.Ythofnojmgkjmfaa

set_option linter.unusedVariables false
set_option linter.unusedSimpArgs false
set_option maxRecDepth 20000
namespace Go.Proofs.Ythofnojmgkjmfaa
open Go.Proofs
theorem Ones_spec {x : BitVec 64} {H : Heap} : HC Try.prog 44 [w64 x] H (fun v H' => v = .int .i64 (popc x) ∧ H' = H) := by
  refine hc_of_hw (N := 35) (rs := [(.tmp 2)]) Try.func44 rfl rfl rfl rfl ?_
  refine hw_seq ?_
  refine hw_region ?_
  refine hl_v (v_assign rfl) rfl ?_
  refine hl_nil ?_
  refine thenQ_n ?_
  refine hw_sub _ (ai_cons (t := 0) rfl ai_nil) ?_
  refine hw_seq ?_
  refine hw_region ?_
  refine hl_v (v_move rfl) rfl ?_
  refine hl_v (v_shr64 rfl rfl (by first | omega | assumption | (simp only [Int.toNat_natCast]; omega) | (simp; done) | (simp at *; omega))) rfl ?_
  refine hl_v (v_and64 rfl (show _ = some (w64 6148914691236517205#64) from rfl)) rfl ?_
  refine hl_v (v_move rfl) rfl ?_
  refine hl_v (v_and64 rfl (show _ = some (w64 6148914691236517205#64) from rfl)) rfl ?_
  refine hl_v (v_add64 rfl rfl) rfl ?_
  refine hl_v (v_assign rfl) rfl ?_
  refine hl_nil ?_
  refine thenQ_n ?_
  refine hw_sub _ (ai_cons (t := 0) rfl ai_nil) ?_
  refine hw_seq ?_
  refine hw_region ?_
  refine hl_v (v_move rfl) rfl ?_
  refine hl_v (v_shr64 rfl rfl (by first | omega | assumption | (simp only [Int.toNat_natCast]; omega) | (simp; done) | (simp at *; omega))) rfl ?_
  refine hl_v (v_and64 rfl (show _ = some (w64 3689348814741910323#64) from rfl)) rfl ?_
  refine hl_v (v_move rfl) rfl ?_
  refine hl_v (v_and64 rfl (show _ = some (w64 3689348814741910323#64) from rfl)) rfl ?_
  refine hl_v (v_add64 rfl rfl) rfl ?_
  refine hl_v (v_assign rfl) rfl ?_
  refine hl_nil ?_
  refine thenQ_n ?_
  refine hw_sub _ (ai_cons (t := 0) rfl ai_nil) ?_
  refine hw_seq ?_
  refine hw_region ?_
  refine hl_v (v_move rfl) rfl ?_
  refine hl_v (v_shr64 rfl rfl (by first | omega | assumption | (simp only [Int.toNat_natCast]; omega) | (simp; done) | (simp at *; omega))) rfl ?_
  refine hl_v (v_move rfl) rfl ?_
  refine hl_v (v_add64 rfl rfl) rfl ?_
  refine hl_v (v_and64 rfl (show _ = some (w64 1085102592571150095#64) from rfl)) rfl ?_
  refine hl_v (v_assign rfl) rfl ?_
  refine hl_nil ?_
  refine thenQ_n ?_
  refine hw_sub _ (ai_cons (t := 0) rfl ai_nil) ?_
  refine hw_seq ?_
  refine hw_region ?_
  refine hl_v (v_move rfl) rfl ?_
  refine hl_v (v_move rfl) rfl ?_
  refine hl_v (v_shr64 rfl rfl (by first | omega | assumption | (simp only [Int.toNat_natCast]; omega) | (simp; done) | (simp at *; omega))) rfl ?_
  refine hl_v (v_add64 rfl rfl) rfl ?_
  refine hl_v (v_assign rfl) rfl ?_
  refine hl_nil ?_
  refine thenQ_n ?_
  refine hw_sub _ (ai_cons (t := 0) rfl ai_nil) ?_
  refine hw_seq ?_
  refine hw_region ?_
  refine hl_v (v_move rfl) rfl ?_
  refine hl_v (v_move rfl) rfl ?_
  refine hl_v (v_shr64 rfl rfl (by first | omega | assumption | (simp only [Int.toNat_natCast]; omega) | (simp; done) | (simp at *; omega))) rfl ?_
  refine hl_v (v_add64 rfl rfl) rfl ?_
  refine hl_v (v_assign rfl) rfl ?_
  refine hl_nil ?_
  refine thenQ_n ?_
  refine hw_sub _ (ai_cons (t := 0) rfl ai_nil) ?_
  refine hw_seq ?_
  refine hw_region ?_
  refine hl_v (v_move rfl) rfl ?_
  refine hl_v (v_move rfl) rfl ?_
  refine hl_v (v_shr64 rfl rfl (by first | omega | assumption | (simp only [Int.toNat_natCast]; omega) | (simp; done) | (simp at *; omega))) rfl ?_
  refine hl_v (v_add64 rfl rfl) rfl ?_
  refine hl_v (v_assign rfl) rfl ?_
  refine hl_nil ?_
  refine thenQ_n ?_
  refine hw_sub _ (ai_cons (t := 0) rfl ai_nil) ?_
  refine hw_seq ?_
  refine hw_region ?_
  refine hl_v (v_move rfl) rfl ?_
  refine hl_v (v_conv (by rw [Try.underlying50]; rfl) Try.underlying3 rfl) rfl ?_
  refine hl_v (v_low7 rfl rfl) rfl ?_
  refine hl_v (v_assign rfl) rfl ?_
  refine hl_nil ?_
  refine thenQ_n ?_
  refine hw_sub _ (ai_cons (t := 2) rfl ai_nil) ?_
  refine hw_ret ?_
  refine ret_i _ (ra_t rfl ra_nil) ?_
  have h := pc_all x
  have h2 : ((pc6 (pc5 (pc4 (pc3 (pc2 (pc1 x)))))).toNat : Int) % 128 = (popc x : Int) := by omega
  exact ⟨congrArg (Value.int .i64) h2, rfl⟩

theorem Size_spec {s : BSet} {H : Heap} : HC Try.prog 27 [sv s] H (fun v H' => v = .int .i64 s.size ∧ Ext [] H H') := by
  have hx0 : Ext [] H H := Ext.refl _
  refine hc_of_hw (N := 16) (rs := [(.tmp 2)]) Try.func27 rfl rfl rfl rfl ?_
  refine hw_seq ?_
  refine hw_region ?_
  refine hl_h (h_boxS rfl) rfl ?_
  rintro _ H1 ⟨rfl, n2⟩
  have n2s := n2.size
  replace hx0 := Ext.trans hx0 n2.ext
  have n2b := n2.blk
  refine hl_v (v_assign rfl) rfl ?_
  refine hl_nil ?_
  refine thenQ_n ?_
  refine hw_sub _ (ai_cons (t := 1) rfl ai_nil) ?_
  refine hw_seq ?_
  refine hw_region ?_
  refine hl_v (v_assign rfl) rfl ?_
  refine hl_nil ?_
  refine thenQ_n ?_
  refine hw_sub _ (ai_cons (t := 1) rfl (ai_cons (t := 3) rfl ai_nil)) ?_
  refine hw_seq ?_
  refine hw_seq ?_
  refine hw_region ?_
  refine hl_v (v_loadS Try.isAgg52 Try.sizeOf52 rfl (by first | exact n2b | assumption)) rfl ?_
  refine hl_v (v_move rfl) rfl ?_
  refine hl_nil ?_
  refine thenQ_n ?_
  refine hw_sub _ (ai_cons (t := 3) rfl (ai_cons (t := 6) rfl (ai_cons (t := 7) rfl ai_nil))) ?_
  refine hw_block ?_
  refine hw_loop (α := Nat) [(6, _)] (fun k => [(3, .int .i64 (s.sizeK k)), (7, .int .i64 (k : Int))]) (fun k G3 => Ext [] H G3 ∧ k ≤ 4) (fun k => 4 - k) 0 (ai_cons (t := 3) rfl (ai_cons (t := 7) rfl (ai_cons (t := 6) rfl ai_nil))) ?_ ?_
  · exact ⟨hx0, Nat.zero_le _⟩
  · intro k G3 hI
    obtain ⟨hx0, hk⟩ := hI
    have hx0z := hx0.size
    have hsl := s.sizeK_le k
    have hpl : ∀ x, popc x ≤ 64 := fun x => cntB_le _ _
    have hp := hpl (s.wd k)
    refine hw_seq ?_
    refine hw_region ?_
    refine hl_v (v_lss rfl rfl) rfl ?_
    refine hl_nil ?_
    refine thenQ_n ?_
    refine hw_sub _ (ai_cons (t := 3) rfl (ai_cons (t := 6) rfl (ai_cons (t := 7) rfl (ai_cons (t := 8) rfl ai_nil)))) ?_
    refine hw_seq ?_
    refine hw_cond rfl (fun hc3 => ?_) (fun hc3 => ?_)
    · try simp only [decide_eq_true_eq, decide_eq_false_iff_not, Bool.and_eq_true, Bool.and_eq_false_iff, Bool.or_eq_true, Bool.or_eq_false_iff, Bool.not_eq_true', Bool.not_eq_false', Bool.not_eq_true, Bool.not_eq_false, beq_iff_eq, Int.not_lt, Int.not_le] at hc3
      refine hw_skip ?_
      refine thenQ_n ?_
      refine hw_seq ?_
      refine hw_block ?_
      refine hw_seq ?_
      refine hw_region ?_
      refine hl_v (v_ixVS Try.underlying52 Try.sizeOf50 Try.isAgg50 rfl rfl (by first | omega | assumption | (simp only [Int.toNat_natCast]; omega) | (simp; done) | (simp at *; omega))) rfl ?_
      refine hl_v (v_assign rfl) rfl ?_
      refine hl_nil ?_
      refine thenQ_n ?_
      refine hw_sub _ (ai_cons (t := 3) rfl (ai_cons (t := 5) rfl (ai_cons (t := 6) rfl (ai_cons (t := 7) rfl ai_nil)))) ?_
      refine hw_region ?_
      refine hl_v (v_move rfl) rfl ?_
      refine hl_v (v_move rfl) rfl ?_
      refine hl_v (v_call Try.call44 (evs_cons rfl evs_nil) (Ones_spec)) rfl ?_
      refine hl_v (v_add rfl rfl (by first | omega | assumption | (simp only [Int.toNat_natCast]; omega) | (simp; done) | (simp at *; omega))) rfl ?_
      refine hl_v (v_assign rfl) rfl ?_
      refine hl_nil ?_
      refine blockQ_n ?_
      refine thenQ_n ?_
      refine hw_region ?_
      refine hl_v (v_add rfl rfl (by first | omega | assumption | (simp only [Int.toNat_natCast]; omega) | (simp; done) | (simp at *; omega))) rfl ?_
      refine hl_v (v_move rfl) rfl ?_
      refine hl_nil ?_
      refine thenQ_n ?_
      refine ⟨k + 1, (ai_cons (t := 3) rfl (ai_cons (t := 7) rfl (ai_cons (t := 6) rfl ai_nil))), ?_, ?_⟩
      · skip
        exact ⟨hx0, by omega⟩
      · omega
    · try simp only [decide_eq_true_eq, decide_eq_false_iff_not, Bool.and_eq_true, Bool.and_eq_false_iff, Bool.or_eq_true, Bool.or_eq_false_iff, Bool.not_eq_true', Bool.not_eq_false', Bool.not_eq_true, Bool.not_eq_false, beq_iff_eq, Int.not_lt, Int.not_le] at hc3
      refine hw_exit ?_
      refine thenQ_e ?_
      refine thenQ_e ?_
      refine blockQ_hit ?_
      refine thenQ_n ?_
      refine hw_seq ?_
      refine hw_region ?_
      refine hl_v (v_move rfl) rfl ?_
      refine hl_v (v_assign rfl) rfl ?_
      refine hl_nil ?_
      refine thenQ_n ?_
      refine hw_sub _ (ai_cons (t := 2) rfl ai_nil) ?_
      refine hw_ret ?_
      refine ret_i _ (ra_t rfl ra_nil) ?_
      obtain rfl : k = 4 := by omega
      exact ⟨rfl, hx0⟩

end Go.Proofs.Ythofnojmgkjmfaa

set_option linter.unusedVariables false
set_option linter.unusedSimpArgs false
set_option maxRecDepth 20000
namespace Go.Proofs.Ythofnojmgkjmfaa
open Go.Proofs
theorem rBytes_spec {a0 : BSet} {L : List As} {H : Heap} {Z : Nat → Prop} (hO : Own H Z L) : HC Try.prog 21 [sv a0] H (fun v H' => ∃ (Z' : Nat → Prop) (v_1 : Value), (∀ b, Z b → Z' b) ∧ v = v_1 ∧ Own H' Z' (own fByte 5 v_1 (a0.bytes) :: L)) :=
  Bytes_spec.mono fun v H' ⟨h1, h2⟩ => ⟨Z, v, fun _ h => h, rfl, hO.made h1 h2⟩
theorem setSize_spec {a0 : BSet} {L : List As} {H : Heap} {Z : Nat → Prop} (hO : Own H Z L) : HC Try.prog 27 [sv a0] H (fun v H' => ∃ (Z' : Nat → Prop), (∀ b, Z b → Z' b) ∧ v = .int .i64 (a0.size : Int) ∧ Own H' Z' L) :=
  Size_spec.mono fun v H' ⟨h1, h2⟩ => ⟨Z, fun _ h => h, h1, hO.ext h2⟩
theorem rFew19_ok {t : GFst} {v_1 : Value} {v_3 : Value} {v_5 : Value} {Q : Bool → Prop} {H : Heap} {Z : Nat → Prop} {L : List As} (h : wp_rFew19 t Q) (hO : Own H Z (L)) (hf_2 : Fz fGTip.rep L v_1 t.Starts) (hf_4 : Fz fGTip.rep L v_3 t.Ends) (hf_6 : Fz fGArc.rep L v_5 t.Arcs) : HC Try.prog 10 [.agg [.int .i64 t.States, v_1, v_3, v_5].toArray] H (fun v H' => ∃ (Z' : Nat → Prop) (r0 : Bool) , (∀ b, Z b → Z' b) ∧ Q r0 ∧ v = .bool r0 ∧ Own H' Z' (L)) := by
 replace hO := hO.inZ
 replace hO := Fz.items [_] hf_2 hO
 replace hO := Fz.items [_, _] hf_4 hO
 replace hO := Fz.items [_, _, _] hf_6 hO
 unfold wp_rFew19 at h
 refine hc_of_hw (N := 48) (rs := [(.tmp 2)]) Try.func10 rfl rfl rfl rfl (hw_seq (hw_region (hl_h (o_box (cs := [.int .i64 t.States, v_1, v_3, v_5]) hO rfl rfl) rfl ?_)))
 rintro _ H_7 ⟨b_8, rfl, hO⟩
 refine hl_v (v_assign rfl) rfl (hl_nil (thenQ_n (hw_seq (hw_region (hl_v (v_assign rfl) rfl (hl_nil (thenQ_n (hw_seq (hw_seq (hw_region (hl_v (v_assign rfl) rfl (hl_nil (thenQ_n (hw_block ?_))))))))))))))
 obtain ⟨I_9, μ_10, h, hI_11⟩ := h
 refine hw_lp (fun n' g' H' => ∃ (n : Int) (i : Int) (Z' : Nat → Prop), n' = μ_10 n i ∧ g' = [(1, ptr b_8 0), (3, .int .i64 n), (4, .int .i64 i)] ∧ I_9 n i ∧ Own H' Z' (box b_8 [.int .i64 t.States, v_1, v_3, v_5] 28 :: fz fGArc.rep v_5 t.Arcs :: fz fGTip.rep v_3 t.Ends :: fz fGTip.rep v_1 t.Starts :: inZ Z :: L)) _ _ (a_c 1 rfl (a_c 3 rfl (a_c 4 rfl a_n))) ⟨0, 0, _, rfl, rfl, h, hO⟩ ?_
 rintro _ _ H_12 ⟨n, i, Z_13, rfl, rfl, h, hO⟩
 replace h := hI_11 n i h
 refine hw_seq (hw_seq (hw_region (hl_v (v_move rfl) rfl (hl_v (v_fieldA Try.underlying28 rfl Try.sizeOf26 rfl) rfl (hl_v (v_load1 Try.isAgg26 rfl (Blk.cell (hO.box 0 rfl) rfl)) rfl ?_)))))
 have hln_15 := Sl.cap (hO.fsl 1 rfl)
 refine hl_v (v_lenL rfl Try.underlying26 rfl (hO.fsl 1 rfl)) rfl (hl_v (v_lss rfl rfl) rfl (hl_v (v_move rfl) rfl (hl_g rfl rfl (fun hg => (v_move rfl)) rfl (hl_g rfl rfl (fun hg => (v_leq (gv_ok rfl hg) rfl)) rfl (hl_v (v_and rfl rfl) rfl (hl_nil (thenQ_n (hw_cond rfl (fun hc_16 => ?_) (fun hc_16 => ?_)))))))))
 ·replace h := ite_t h hc_16
  refine hw_skip (thenQ_n (hw_seq (hw_block (hw_region (hl_v (v_move rfl) rfl (hl_v (v_fieldA Try.underlying28 rfl Try.sizeOf26 rfl) rfl (hl_v (v_load1 Try.isAgg26 rfl (Blk.cell (hO.box 0 rfl) rfl)) rfl (hl_v (v_move rfl) rfl ?_))))))))
  obtain ⟨hs_17, h⟩ := h
  refine hl_v (v_ixL Try.underlying26 Try.sizeOf55 rfl rfl (hO.fsl 1 rfl) hs_17) rfl (hl_v (v_fieldA Try.underlying55 rfl Try.sizeOf52 rfl) rfl (hl_v (v_loadSubA (o := 2) Try.isAgg52 Try.sizeOf52 rfl (hO.fsl 1 rfl) rfl hs_17 rfl) rfl (hl_h (h_call Try.call21 (evs_cons rfl evs_nil) (rBytes_spec (a0 := (t.Arcs.getD i.toNat default).Set) hO)) rfl ?_)))
  rintro v_18 H_19 ⟨Z_20, _, _, rfl, hO⟩
  have hln_22 := Sl.cap (hO.osl 0 rfl)
  refine hl_v (v_lenL rfl Try.underlying56 rfl (hO.osl 0 rfl)) rfl ?_
  obtain ⟨hs_23, h⟩ := h
  refine hl_v (v_add rfl rfl hs_23) rfl (hl_v (v_assign rfl) rfl (hl_nil (blockQ_n (thenQ_n (hw_region (hl_v (v_move rfl) rfl ?_))))))
  obtain ⟨hs_24, h⟩ := h
  refine hl_v (v_add rfl rfl hs_24) rfl (hl_v (v_assign rfl) rfl (hl_nil (thenQ_n ?_)))
  exact ⟨_, _, (a_c 1 rfl (a_c 3 rfl (a_c 4 rfl a_n))), ⟨(n + ((((t.Arcs.getD i.toNat default).Set).bytes).length : Int)), (i + 1), _, rfl, rfl, h.1, (Own.sel (Ls := [own fByte 5 v_18 (((t.Arcs.getD i.toNat default).Set).bytes), box b_8 [.int .i64 t.States, v_1, v_3, v_5] 28, fz fGArc.rep v_5 t.Arcs, fz fGTip.rep v_3 t.Ends, fz fGTip.rep v_1 t.Starts, inZ Z]) (L := L) [1, 2, 3, 4, 5] rfl hO)⟩, h.2⟩
 ·replace h := ite_f h hc_16
  refine hw_exit (thenQ_e (thenQ_e (blockQ_hit (thenQ_n (hw_seq (hw_region (hl_v (v_loadA Try.isAgg28 Try.sizeOf28 rfl (Blk.at0 (hO.box 0 rfl)) rfl) rfl ?_)))))))
  obtain ⟨hs_25, h⟩ := h
  refine hl_h (h_call Try.call9 (evs_cons rfl evs_nil) (rFew15_spec (a0 := t) hs_25 hO (Fz.of (i := 3) rfl) (Fz.of (i := 2) rfl) (Fz.of (i := 1) rfl))) rfl ?_
  rintro _ H_26 ⟨Z_27, _, rfl, hO⟩
  refine hl_v (v_move rfl) rfl (hl_g rfl rfl (fun hg => (v_fieldA Try.underlying28 rfl Try.sizeOf26 rfl)) rfl (hl_g rfl rfl (fun hg => (v_load1 Try.isAgg26 (gv_ok rfl hg) (Blk.cell (hO.box 0 rfl) rfl))) rfl (hl_g rfl rfl (fun hg => (v_lenL rfl Try.underlying26 (gv_ok rfl hg) (hO.fsl 1 rfl))) rfl (hl_g rfl rfl (fun hg => (v_leq (gv_ok rfl hg) rfl)) rfl (hl_v (v_and rfl rfl) rfl (hl_v (v_move rfl) rfl (hl_g rfl rfl (fun hg => (v_fieldA Try.underlying28 rfl Try.sizeOf3 rfl)) rfl (hl_g rfl rfl (fun hg => (v_load1 Try.isAgg3 (gv_ok rfl hg) (Blk.cell (hO.box 0 rfl) rfl))) rfl (hl_g rfl rfl (fun hg => (v_leq (gv_ok rfl hg) rfl)) rfl (hl_g rfl rfl (fun hg => (v_move (gv_ok rfl hg))) rfl (hl_g rfl rfl (fun hg => (v_fieldA Try.underlying28 rfl Try.sizeOf3 rfl)) rfl (hl_g rfl rfl (fun hg => (v_load1 Try.isAgg3 (gv_ok rfl hg) (Blk.cell (hO.box 0 rfl) rfl))) rfl (hl_g rfl rfl (fun hg => (v_gtr (gv_ok rfl hg) rfl)) rfl (hl_g rfl rfl (fun hg => (v_or (gv_ok rfl hg) (gvgb_ok rfl hg))) rfl (hl_v (v_and rfl rfl) rfl (hl_v (v_move rfl) rfl (hl_g rfl rfl (fun hg => (v_move rfl)) rfl (hl_g rfl rfl (fun hg => (v_leq (gv_ok rfl hg) rfl)) rfl (hl_v (v_and rfl rfl) rfl (hl_v (v_assign rfl) rfl (hl_nil (thenQ_n (hw_sub _ (a_c 2 rfl a_n) (hw_ret (ret_i _ (ra_t rfl ra_nil) ?_)))))))))))))))))))))))))
  exact ⟨_, (((fFew t && decide ((t.Arcs.length : Int) ≤ 14)) && (decide (t.States ≤ 5) || decide (1024 < t.States))) && decide (n ≤ 40)), (hO.inz 4 rfl), h, rfl, (Own.sel (Ls := [box b_8 [.int .i64 t.States, v_1, v_3, v_5] 28, fz fGArc.rep v_5 t.Arcs, fz fGTip.rep v_3 t.Ends, fz fGTip.rep v_1 t.Starts, inZ Z]) (L := L) [] rfl hO)⟩
theorem rFew19_spec {a0 : GFst} {v_1 : Value} {v_3 : Value} {v_5 : Value} {L : List As} (hp : fSane a0) {H : Heap} {Z : Nat → Prop} (hO : Own H Z (L)) (hf_2 : Fz fGTip.rep L v_1 a0.Starts) (hf_4 : Fz fGTip.rep L v_3 a0.Ends) (hf_6 : Fz fGArc.rep L v_5 a0.Arcs) : HC Try.prog 10 [.agg [.int .i64 a0.States, v_1, v_3, v_5].toArray] H (fun v H' => ∃ (Z' : Nat → Prop) , (∀ b, Z b → Z' b) ∧ v = .bool (f19Few a0) ∧ Own H' Z' (L)) := by
  refine (rFew19_ok (t := a0) (@rFew19_wp a0 hp) hO hf_2 hf_4 hf_6).mono ?_
  rintro v H' ⟨Z', r0, hz, hq, hv, hO'⟩
  obtain rfl := hq
  exact ⟨Z', hz, hv, hO'⟩

end Go.Proofs.Ythofnojmgkjmfaa
