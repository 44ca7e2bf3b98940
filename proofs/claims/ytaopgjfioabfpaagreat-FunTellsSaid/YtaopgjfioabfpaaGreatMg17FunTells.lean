/- Several texts in one. No condition. -/
import Derived.Test.YtaopgjfioabfpaaGreatMg16FunTells
import Derived.Test.YtaopgjfioabfpaaGreatProg
set_option linter.unusedVariables false
set_option linter.unusedSimpArgs false
set_option maxRecDepth 20000
namespace Go.Proofs.YtaopgjfioabfpaaGreat
section
open Go.Proofs
open Tryz
theorem reach1_ok {s : Int} {c0 : List Bool} {c1 : List (List Int)} {v_2 : Value} {v_4 : Value} {b_1 : Nat} {b_3 : Nat} {b_7 : Nat} {Q : (List Bool) → Prop} {H : Heap} {Z : Nat → Prop} {L : List As} (n : Nat) (ih : ∀ {a0 : Int} {a1 : List Bool} {a2 : List (List Int)} {v_2 : Value} {v_4 : Value} {b_1 : Nat} {b_3 : Nat} {b_7 : Nat} {L : List As} (hn : (a1.count false) < n) (hp : StepsOk a2 a1.length ∧ 0 ≤ a0 ∧ a0 < a1.length) {H : Heap} {Z : Nat → Prop} (hO : Own H Z (box b_1 [v_2] 48 :: own fBool 4 v_2 a1 :: L)) (hf_5 : Fz (Rep.sl fInt.rep) L v_4 a2) (hb_6 : Bx L b_3 [v_4] 97) (hb_8 : Bx L b_7 [.func (.func 58) #[] #[ptr b_1 0, ptr b_3 0, ptr b_7 0]] 118), HC Tryz.prog 58 [.int .i64 a0, ptr b_1 0, ptr b_3 0, ptr b_7 0] H (fun v H' => ∃ (Z' : Nat → Prop) (v_9 : Value), (∀ b, Z b → Z' b) ∧ v = .tuple #[] ∧ Own H' Z' (box b_1 [v_9] 48 :: own fBool 4 v_9 ((visit a2 a0 a1)) :: L))) (hle : (c0.count false) ≤ n) (h : wp_reach1 s c0 c1 Q) (hO : Own H Z (box b_1 [v_2] 48 :: own fBool 4 v_2 c0 :: L)) (hf_5 : Fz (Rep.sl fInt.rep) L v_4 c1) (hb_6 : Bx L b_3 [v_4] 97) (hb_8 : Bx L b_7 [.func (.func 58) #[] #[ptr b_1 0, ptr b_3 0, ptr b_7 0]] 118) : HC Tryz.prog 58 [.int .i64 s, ptr b_1 0, ptr b_3 0, ptr b_7 0] H (fun v H' => ∃ (Z' : Nat → Prop) (m0 : List Bool) (v_9 : Value), (∀ b, Z b → Z' b) ∧ Q m0 ∧ v = .tuple #[] ∧ Own H' Z' (box b_1 [v_9] 48 :: own fBool 4 v_9 m0 :: L)) := by
 replace hO := hO.inZ
 replace hO := Fz.items [_, _, _] hf_5 hO
 unfold wp_reach1 at h
 refine hc_of_hw (N := 27) (rs := []) Tryz.func58 rfl rfl rfl rfl (hw_seq (hw_seq (hw_region (hl_v (v_load1 isAgg48 rfl (Blk.cell (hO.box 2 rfl) rfl)) rfl (hl_v (v_move rfl) rfl ?_)))))
 obtain ⟨hs_10, h⟩ := h
 refine hl_v (v_ixL underlying48 sizeOf4 rfl rfl (hO.osl 3 rfl) hs_10) rfl (hl_v (v_loadSc isAgg4 rfl (hO.osl 3 rfl) rfl hs_10 rfl) rfl (hl_nil (thenQ_n (hw_cond rfl (fun hc_11 => ?_) (fun hc_11 => ?_)))))
 ·replace h := ite_t h hc_11
  refine hw_ret (thenQ_r (ret_i _ ra_nil ?_))
  exact ⟨_, c0, v_2, (hO.inz 1 rfl), h, rfl, (Own.sel (Ls := [_, _, _, _]) (L := L) [2, 3] rfl hO)⟩
 ·replace h := ite_f h hc_11
  refine hw_skip (thenQ_n (hw_seq (hw_region (hl_v (v_load1 isAgg48 rfl (Blk.cell (hO.box 2 rfl) rfl)) rfl (hl_v (v_move rfl) rfl (hl_v (v_ixL underlying48 sizeOf4 rfl rfl (hO.osl 3 rfl) hs_10) rfl (hl_s (o_set1 (x' := true) hO 3 rfl sizeOf4 rfl rfl rfl rfl hs_10 rfl rfl) ?_)))))))
  rintro _ H_12 hO
  refine hl_nil (thenQ_n (hw_seq (hw_region (hl_v (v_load1 isAgg97 rfl (Blk.cell (hb_6 _ _ (Own.tails [_, _, _, _] hO)) rfl)) rfl (hl_v (v_move rfl) rfl ?_)))))
  obtain ⟨hs_13, h⟩ := h
  refine hl_v (v_ixL underlying97 sizeOf67 rfl rfl (hO.fsl 0 rfl) hs_13) rfl ?_
  obtain ⟨v_14, ha_16, he_15⟩ := sl_row (hO.fsl 0 rfl) hs_13
  replace hO := Sl.item he_15 hO
  refine hl_v (v_load1 isAgg67 rfl ha_16) rfl ?_
  have hln_17 := Sl.cap (hO.fsl 0 rfl)
  refine hl_v (v_lenL rfl underlying67 rfl (hO.fsl 0 rfl)) rfl (hl_v (v_move rfl) rfl (hl_nil (thenQ_n (hw_sub _ (a_c 3 rfl (a_c 17 rfl (a_c 18 rfl (a_c 19 rfl a_n)))) (hw_block ?_)))))
  obtain ⟨I_19, h, hI_21⟩ := h
  refine hw_lp (fun n' g' H' => ∃ (l : List Bool) (k : Nat) (v_18 : Value) (Z' : Nat → Prop), n' = (c1.getD s.toNat default).length - k ∧ g' = [(3, ptr b_7 0), (17, v_14), (18, .int .i64 ((c1.getD s.toNat default).length : Int)), (19, .int .i64 (k : Int))] ∧ I_19 l k ∧ k ≤ (c1.getD s.toNat default).length ∧ Own H' Z' (fz fInt.rep v_14 (c1.getD s.toNat default) :: fz (Rep.sl fInt.rep) v_4 c1 :: inZ Z :: box b_1 [v_18] 48 :: own fBool 4 v_18 l :: L)) _ _ (a_c 3 rfl (a_c 17 rfl (a_c 18 rfl (a_c 19 rfl a_n)))) ⟨(c0.set s.toNat true), 0, v_2, _, rfl, rfl, h, by omega, hO⟩ ?_
  rintro _ _ H_22 ⟨l, k, v_18, Z_23, rfl, rfl, h, hb_24, hO⟩
  replace h := hI_21 l k h hb_24
  refine hw_seq (hw_region (hl_v (v_lss rfl rfl) rfl (hl_nil (thenQ_n (hw_seq (hw_cond rfl (fun hc_25 => ?_) (fun hc_25 => ?_)))))))
  ·replace h := ite_t h hc_25
   refine hw_skip (thenQ_n (hw_seq (hw_block (hw_seq (hw_region (hl_v (v_ixL underlying67 sizeOf3 rfl rfl (hO.fsl 0 rfl) (by exact ⟨Int.natCast_nonneg _, of_decide_eq_true hc_25⟩)) rfl (hl_v (v_loadSc isAgg3 rfl (hO.fsl 0 rfl) rfl (by exact ⟨Int.natCast_nonneg _, of_decide_eq_true hc_25⟩) rfl) rfl (hl_v (v_assign rfl) rfl (hl_nil (thenQ_n (hw_region (hl_v (v_load1 isAgg118 rfl (Blk.cell (hb_8 _ _ (Own.tails [_, _, _, _, _] hO)) rfl)) rfl (hl_v (v_move rfl) rfl ?_)))))))))))))
   obtain ⟨hs_26, h⟩ := h
   refine hl_h (h_callv (fs := []) (cs := [ptr b_1 0, ptr b_3 0, ptr b_7 0]) call58 rfl (evs_cons rfl evs_nil) (ih (a0 := ((c1.getD s.toNat default).getD k default)) (a1 := l) (a2 := c1) (L := fz fInt.rep v_14 (c1.getD s.toNat default) :: fz (Rep.sl fInt.rep) v_4 c1 :: inZ Z :: L) (Nat.lt_of_lt_of_le hs_26.1 hle) hs_26.2 (Own.sel (Ls := [_, _, _, _, _]) (L := L) [3, 4, 0, 1, 2] rfl hO) (Fz.of (i := 1) rfl) (Bx.tails [_, _, _] hb_6) (Bx.tails [_, _, _] hb_8))) rfl ?_
   rintro _ H_27 ⟨Z_28, v_30, _, rfl, hO⟩
   refine hl_nil (blockQ_n (thenQ_n (hw_region (hl_v (v_add rfl rfl (by have hq := of_decide_eq_true hc_25; have hm := hln_17; constructor <;> omega)) rfl (hl_v (v_move rfl) rfl (hl_nil (thenQ_n ?_)))))))
   exact ⟨_, _, (a_c 3 rfl (a_c 17 rfl (a_c 18 rfl (a_c 19 rfl a_n)))), ⟨(visit c1 ((c1.getD s.toNat default).getD k default) l), k + 1, v_30, _, rfl, rfl, h, (by have hq := of_decide_eq_true hc_25; omega), (Own.sel (Ls := [_, _, _, _, _]) (L := L) [2, 3, 4, 0, 1] rfl hO)⟩, (by have hq := of_decide_eq_true hc_25; omega)⟩
  ·replace h := ite_f h hc_25
   refine hw_exit (thenQ_e (thenQ_e (blockQ_hit (ret_n _ ra_nil ?_))))
   exact ⟨_, l, v_18, (hO.inz 2 rfl), h, rfl, (Own.sel (Ls := [_, _, _, _, _]) (L := L) [3, 4] rfl hO)⟩
theorem reach1_spec {a0 : Int} {a1 : List Bool} {a2 : List (List Int)} {v_2 : Value} {v_4 : Value} {b_1 : Nat} {b_3 : Nat} {b_7 : Nat} {L : List As} (hp : StepsOk a2 a1.length ∧ 0 ≤ a0 ∧ a0 < a1.length) {H : Heap} {Z : Nat → Prop} (hO : Own H Z (box b_1 [v_2] 48 :: own fBool 4 v_2 a1 :: L)) (hf_5 : Fz (Rep.sl fInt.rep) L v_4 a2) (hb_6 : Bx L b_3 [v_4] 97) (hb_8 : Bx L b_7 [.func (.func 58) #[] #[ptr b_1 0, ptr b_3 0, ptr b_7 0]] 118) : HC Tryz.prog 58 [.int .i64 a0, ptr b_1 0, ptr b_3 0, ptr b_7 0] H (fun v H' => ∃ (Z' : Nat → Prop) (v_9 : Value), (∀ b, Z b → Z' b) ∧ v = .tuple #[] ∧ Own H' Z' (box b_1 [v_9] 48 :: own fBool 4 v_9 ((visit a2 a0 a1)) :: L)) := by
  have key : ∀ n : Nat, ∀ {a0 : Int} {a1 : List Bool} {a2 : List (List Int)} {v_2 : Value} {v_4 : Value} {b_1 : Nat} {b_3 : Nat} {b_7 : Nat} {L : List As} (hn : (a1.count false) < n) (hp : StepsOk a2 a1.length ∧ 0 ≤ a0 ∧ a0 < a1.length) {H : Heap} {Z : Nat → Prop} (hO : Own H Z (box b_1 [v_2] 48 :: own fBool 4 v_2 a1 :: L)) (hf_5 : Fz (Rep.sl fInt.rep) L v_4 a2) (hb_6 : Bx L b_3 [v_4] 97) (hb_8 : Bx L b_7 [.func (.func 58) #[] #[ptr b_1 0, ptr b_3 0, ptr b_7 0]] 118), HC Tryz.prog 58 [.int .i64 a0, ptr b_1 0, ptr b_3 0, ptr b_7 0] H (fun v H' => ∃ (Z' : Nat → Prop) (v_9 : Value), (∀ b, Z b → Z' b) ∧ v = .tuple #[] ∧ Own H' Z' (box b_1 [v_9] 48 :: own fBool 4 v_9 ((visit a2 a0 a1)) :: L)) := by
    intro n
    induction n with
    | zero => intro a0 a1 a2 v_2 v_4 b_1 b_3 b_7 L hn; exact absurd hn (Nat.not_lt_zero _)
    | succ n ih =>
      intro a0 a1 a2 v_2 v_4 b_1 b_3 b_7 L hn hp H Z hO hf_5 hb_6 hb_8
      refine (reach1_ok (s := a0) (c0 := a1) (c1 := a2) n ih (Nat.lt_succ_iff.1 hn) (@reach1_wp a0 a1 a2 hp) hO hf_5 hb_6 hb_8).mono ?_
      rintro v H' ⟨Z', m0, v_9, hz, hq, hv, hO'⟩
      obtain rfl := hq
      exact ⟨Z', v_9, hz, hv, hO'⟩
  exact key _ (Nat.lt_succ_self _) hp hO hf_5 hb_6 hb_8
theorem reachP_ok {n : Int} {xfrom : List GTip} {steps : List (List Int)} {v_1 : Value} {v_3 : Value} {Q : (List Bool) → Prop} {H : Heap} {Z : Nat → Prop} {L : List As} (h : wp_reachP n xfrom steps Q) (hO : Own H Z (L)) (hr_2 : Rd fGTip.rep L v_1 xfrom) (hf_4 : Fz (Rep.sl fInt.rep) L v_3 steps) : HC Tryz.prog 41 [.int .i64 n, v_1, v_3] H (fun v H' => ∃ (Z' : Nat → Prop) (r0 : List Bool) (v_5 : Value), (∀ b, Z b → Z' b) ∧ Q r0 ∧ v = v_5 ∧ Own H' Z' (own fBool 4 v_5 r0 :: L)) := by
 replace hO := hO.inZ
 replace hO := Fz.items [_] hf_4 hO
 unfold wp_reachP at h
 refine hc_of_hw (N := 26) (rs := [(.tmp 6)]) Tryz.func41 rfl rfl rfl rfl (hw_seq (hw_region (hl_h (o_box (cs := [v_3]) hO rfl (by obtain ⟨_, _, _, hw⟩ := Sl.sh (hO.fsl 0 rfl); rw [hw]; rfl)) rfl ?_)))
 rintro _ H_6 ⟨b_7, rfl, hO⟩
 refine hl_v (v_assign rfl) rfl (hl_nil (thenQ_n (hw_seq (hw_region (hl_v (v_move rfl) rfl ?_)))))
 obtain ⟨hs_10, h⟩ := h
 refine hl_h (o_makeSlice (g := fBool) (d := false) hO underlying48 type4 rfl rfl rfl rfl rfl rfl hs_10.1 hs_10.2.1 hs_10.2.2) rfl ?_
 rintro v_9 H_8 hO
 refine hl_h (o_alloc (cs := [.slice none 0 0]) hO zeroValue48 rfl) rfl ?_
 rintro _ H_11 ⟨b_12, rfl, hO⟩
 refine hl_s (o_store1 hO 0 rfl sizeOf48 rfl rfl rfl (Sl.one (hO.osl 1 rfl))) ?_
 rintro _ H_13 hO
 refine hl_nil (thenQ_n (hw_seq (hw_region (hl_h (o_alloc (cs := [.nilFunc]) hO zeroValue118 rfl) rfl ?_))))
 rintro _ H_14 ⟨b_15, rfl, hO⟩
 refine hl_nil (thenQ_n (hw_seq (hw_region (hl_v (v_makeFunc (us := []) (vs := [_, _, _]) rfl rfl) rfl (hl_s (o_store1 hO 0 rfl sizeOf118 rfl rfl rfl rfl) ?_)))))
 rintro _ H_16 hO
 refine hl_nil (thenQ_n (hw_seq (hw_seq (hw_region (hl_v (v_move rfl) rfl ?_)))))
 have hln_17 := Sl.cap (Rd.sl hr_2 (Own.tails [_, _, _, _, _, _] hO))
 refine hl_v (v_lenL rfl underlying22 rfl (Rd.sl hr_2 (Own.tails [_, _, _, _, _, _] hO))) rfl (hl_v (v_move rfl) rfl (hl_nil (thenQ_n (hw_block ?_))))
 obtain ⟨I_19, h, hI_21⟩ := h
 refine hw_lp (fun n' g' H' => ∃ (xin : List Bool) (k : Nat) (v_18 : Value) (Z' : Nat → Prop), n' = xfrom.length - k ∧ g' = [(7, ptr b_12 0), (8, ptr b_15 0), (14, v_1), (15, .int .i64 (xfrom.length : Int)), (16, .int .i64 (k : Int))] ∧ I_19 xin k ∧ k ≤ xfrom.length ∧ Own H' Z' (box b_15 [.func (.func 58) #[] #[ptr b_12 0, ptr b_7 0, ptr b_15 0]] 118 :: box b_12 [v_18] 48 :: own fBool 4 v_18 xin :: box b_7 [v_3] 97 :: fz (Rep.sl fInt.rep) v_3 steps :: inZ Z :: L)) _ _ (a_c 7 rfl (a_c 8 rfl (a_c 14 rfl (a_c 15 rfl (a_c 16 rfl a_n))))) ⟨(List.replicate n.toNat false), 0, v_9, _, rfl, rfl, h, by omega, hO⟩ ?_
 rintro _ _ H_22 ⟨xin, k, v_18, Z_23, rfl, rfl, h, hb_24, hO⟩
 replace h := hI_21 xin k h hb_24
 refine hw_seq (hw_region (hl_v (v_lss rfl rfl) rfl (hl_nil (thenQ_n (hw_seq (hw_cond rfl (fun hc_25 => ?_) (fun hc_25 => ?_)))))))
 ·replace h := ite_t h hc_25
  refine hw_skip (thenQ_n (hw_seq (hw_block (hw_seq (hw_region (hl_v (v_ixL underlying22 sizeOf50 rfl rfl (Rd.sl hr_2 (Own.tails [_, _, _, _, _, _] hO)) (by exact ⟨Int.natCast_nonneg _, of_decide_eq_true hc_25⟩)) rfl (hl_v (v_loadFl isAgg50 sizeOf50 rfl (Rd.sl hr_2 (Own.tails [_, _, _, _, _, _] hO)) rfl (by exact ⟨Int.natCast_nonneg _, of_decide_eq_true hc_25⟩)) rfl (hl_h (o_alloc (cs := (fGTip.enc (⟨(0 : Int), ([] : List UInt8)⟩ : GTip))) hO zeroValue50 rfl) rfl ?_))))))))
  rintro _ H_26 ⟨b_27, rfl, hO⟩
  refine hl_s (o_storeA (us := (fGTip.enc (xfrom.getD k default))) hO 0 rfl sizeOf50 rfl rfl rfl rfl (by intro u hu; exact (fGTip).one _ u hu)) ?_
  rintro _ H_28 hO
  refine hl_nil (thenQ_n (hw_region (hl_v (v_load1 isAgg118 rfl (Blk.cell (hO.box 1 rfl) rfl)) rfl (hl_v (v_fieldA underlying50 rfl sizeOf3 rfl) rfl (hl_v (v_load1 isAgg3 rfl (Blk.cell (hO.box 0 rfl) rfl)) rfl ?_)))))
  obtain ⟨hs_29, h⟩ := h
  refine hl_h (h_callv (fs := []) (cs := [ptr b_12 0, ptr b_7 0, ptr b_15 0]) call58 rfl (evs_cons rfl evs_nil) (reach1_spec (a0 := (xfrom.getD k default).State) (a1 := xin) (a2 := steps) (L := box b_27 (fGTip.enc (xfrom.getD k default)) 50 :: box b_15 [.func (.func 58) #[] #[ptr b_12 0, ptr b_7 0, ptr b_15 0]] 118 :: box b_7 [v_3] 97 :: fz (Rep.sl fInt.rep) v_3 steps :: inZ Z :: L) hs_29 (Own.sel (Ls := [_, _, _, _, _, _, _]) (L := L) [2, 3, 0, 1, 4, 5, 6] rfl hO) (Fz.of (i := 3) rfl) (Bx.of (i := 2) rfl) (Bx.of (i := 1) rfl))) rfl ?_
  rintro _ H_30 ⟨Z_31, v_33, _, rfl, hO⟩
  refine hl_nil (blockQ_n (thenQ_n (hw_region (hl_v (v_add rfl rfl (by have hq := of_decide_eq_true hc_25; have hm := hln_17; constructor <;> omega)) rfl (hl_v (v_move rfl) rfl (hl_nil (thenQ_n ?_)))))))
  exact ⟨_, _, (a_c 7 rfl (a_c 8 rfl (a_c 14 rfl (a_c 15 rfl (a_c 16 rfl a_n))))), ⟨(visit steps ((xfrom.getD k default).State) xin), k + 1, v_33, _, rfl, rfl, h, (by have hq := of_decide_eq_true hc_25; omega), (Own.sel (Ls := [_, _, _, _, _, _, _]) (L := L) [3, 0, 1, 4, 5, 6] rfl hO)⟩, (by have hq := of_decide_eq_true hc_25; omega)⟩
 ·replace h := ite_f h hc_25
  refine hw_exit (thenQ_e (thenQ_e (blockQ_hit (thenQ_n (hw_seq (hw_region (hl_v (v_load1 isAgg48 rfl (Blk.cell (hO.box 1 rfl) rfl)) rfl (hl_v (v_assign rfl) rfl (hl_nil (thenQ_n (hw_ret (ret_i _ (ra_t rfl ra_nil) ?_))))))))))))
  exact ⟨_, xin, v_18, (hO.inz 5 rfl), h, rfl, (Own.sel (Ls := [_, _, _, _, _, _]) (L := L) [2] rfl hO)⟩
theorem reachP_spec {a0 : Int} {a1 : List GTip} {a2 : List (List Int)} {v_1 : Value} {v_3 : Value} {L : List As} (hp : StepsOk a2 a0.toNat ∧ 0 ≤ a0 ∧ a0 ≤ 1024 ∧ ∀ x ∈ a1, 0 ≤ x.State ∧ x.State < a0) {H : Heap} {Z : Nat → Prop} (hO : Own H Z (L)) (hr_2 : Rd fGTip.rep L v_1 a1) (hf_4 : Fz (Rep.sl fInt.rep) L v_3 a2) : HC Tryz.prog 41 [.int .i64 a0, v_1, v_3] H (fun v H' => ∃ (Z' : Nat → Prop) (v_5 : Value), (∀ b, Z b → Z' b) ∧ v = v_5 ∧ Own H' Z' (own fBool 4 v_5 ((reachL a0 a1 a2)) :: L)) := by
  refine (reachP_ok (n := a0) (xfrom := a1) (steps := a2) (@reachP_wp a0 a1 a2 hp) hO hr_2 hf_4).mono ?_
  rintro v H' ⟨Z', r0, v_5, hz, hq, hv, hO'⟩
  obtain rfl := hq
  exact ⟨Z', v_5, hz, hv, hO'⟩
theorem useful1_ok {c0 : GFst} {c1 : List Bool} {c2 : List Bool} {v_3 : Value} {v_5 : Value} {v_7 : Value} {v_11 : Value} {v_15 : Value} {b_2 : Nat} {b_10 : Nat} {b_14 : Nat} {X : Nat → Int → Prop} {Q : Nat → Prop} {lab_1 : Nat} {J : Nat → As} {Jx : As} {L : List As} (hY : ∀ k x, X k x → ∀ (F : List As) Z G, Own G Z (F ++ J k :: L) → HY Tryz.prog lab_1 ((fun x => [.int .i64 x]) x) G (fun v G' => ∃ b Z', v = .bool b ∧ Own G' Z' (F ++ (if b then J (k + 1) else Jx) :: L))) (h : wp_useful1 c0 c1 c2 X Q) {H : Heap} {Z : Nat → Prop} (hO : Own H Z (J 0 :: L)) (hf_4 : Fz fGTip.rep L v_3 c0.Starts) (hf_6 : Fz fGTip.rep L v_5 c0.Ends) (hf_8 : Fz fGArc.rep L v_7 c0.Arcs) (hb_9 : Bx L b_2 [.int .i64 c0.States, v_3, v_5, v_7] 25) (hf_12 : Fz fBool.rep L v_11 c1) (hb_13 : Bx L b_10 [v_11] 48) (hf_16 : Fz fBool.rep L v_15 c2) (hb_17 : Bx L b_14 [v_15] 48) : HC Tryz.prog 42 [.func (.yield lab_1) #[] #[], ptr b_2 0, ptr b_10 0, ptr b_14 0] H (fun _ G => (∃ k, Q k ∧ ∃ Z', Own G Z' (J k :: L)) ∨ ∃ Z', Own G Z' (Jx :: L)) := by
 replace hO := hO.inZ
 replace hO := Fz.items [_, _] hf_4 hO
 replace hO := Fz.items [_, _, _] hf_6 hO
 replace hO := Fz.items [_, _, _, _] hf_8 hO
 replace hO := Fz.items [_, _, _, _, _] hf_12 hO
 replace hO := Fz.items [_, _, _, _, _, _] hf_16 hO
 unfold wp_useful1 at h
 refine hc_of_hw (N := 28) (rs := []) Tryz.func42 rfl rfl rfl rfl (hw_seq (hw_region (hl_v (v_fieldA underlying25 rfl sizeOf3 rfl) rfl (hl_v (v_load1 isAgg3 rfl (Blk.cell (hb_9 _ _ (Own.tails [_, _, _, _, _, _, _] hO)) rfl)) rfl (hl_v (v_move rfl) rfl (hl_nil (thenQ_n (hw_block ?_))))))))
 obtain ⟨I_18, h, hI_20⟩ := h
 refine hw_lp (fun n' g' H' => ∃ (k : Nat) (y : Nat) (Z' : Nat → Prop), n' = (c0.States - (k : Int)).toNat ∧ g' = [(0, .func (.yield lab_1) #[] #[]), (2, ptr b_10 0), (3, ptr b_14 0), (7, .int .i64 c0.States), (8, .int .i64 (k : Int))] ∧ I_18 k y ∧ Own H' Z' (fz fBool.rep v_15 c2 :: fz fBool.rep v_11 c1 :: inZ Z :: J y :: L)) _ _ (a_c 0 rfl (a_c 2 rfl (a_c 3 rfl (a_c 7 rfl (a_c 8 rfl a_n))))) ⟨0, 0, _, rfl, rfl, h, (Own.sel (Ls := [_, _, _, _, _, _, _]) (L := L) [0, 1, 5, 6] rfl hO)⟩ ?_
 rintro _ _ H_21 ⟨k, y, Z_22, rfl, rfl, h, hO⟩
 replace h := hI_20 k y h
 refine hw_seq (hw_region (hl_v (v_lss rfl rfl) rfl (hl_nil (thenQ_n (hw_seq (hw_cond rfl (fun hc_24 => ?_) (fun hc_24 => ?_)))))))
 ·replace h := ite_t h hc_24
  refine hw_skip (thenQ_n (hw_seq (hw_block (hw_seq (hw_region (hl_v (v_move rfl) rfl (hl_v (v_assign rfl) rfl (hl_nil (thenQ_n (hw_seq (hw_region (hl_v (v_load1 isAgg48 rfl (Blk.cell (hb_13 _ _ (Own.tails [_, _, _, _] hO)) rfl)) rfl (hl_v (v_move rfl) rfl ?_)))))))))))))
  obtain ⟨hs_25, h⟩ := h
  refine hl_v (v_ixL underlying48 sizeOf4 rfl rfl (hO.fsl 1 rfl) hs_25) rfl (hl_v (v_loadSc isAgg4 rfl (hO.fsl 1 rfl) rfl hs_25 rfl) rfl (hl_v (v_move rfl) rfl (hl_g rfl rfl (fun hg => (v_load1 isAgg48 rfl (Blk.cell (hb_17 _ _ (Own.tails [_, _, _, _] hO)) rfl))) rfl (hl_g rfl rfl (fun hg => (v_move rfl)) rfl ?_))))
  obtain ⟨hs_26, h⟩ := h
  refine hl_g rfl rfl (fun hg => (v_ixL underlying48 sizeOf4 (gv_ok rfl hg) (gv_ok rfl hg) (hO.fsl 0 rfl) (hs_26 (gb_bool hg)))) rfl ?_
  obtain ⟨hs_27, h⟩ := h
  refine hl_g rfl rfl (fun hg => (v_loadSc isAgg4 (gv_ok rfl hg) (hO.fsl 0 rfl) rfl (hs_27 (gb_bool hg)) rfl)) rfl (hl_v (v_and rfl rfl) rfl (hl_v (v_move rfl) rfl (hl_bool (s := 21) rfl (fun hc_28 => ?_) (fun hc_28 => ?_))))
  ·replace h := ite_t h hc_28
   refine hl_g rfl rfl (fun hg => (v_move rfl)) rfl (hl_g rfl rfl (fun hg => (v_move rfl)) rfl ?_)
   obtain ⟨hs_29, h⟩ := h
   refine hl_gy rfl rfl rfl (y_call rfl (evs_cons rfl evs_nil) (hY y (k : Int) hs_29 [fz fBool.rep v_15 c2, fz fBool.rep v_11 c1, inZ Z] _ _ hO)) rfl ?_
   rintro _ H_31 ⟨b_30, Z_32, rfl, hO⟩
   cases b_30
   ·replace hO : Own H_31 Z_32 (fz fBool.rep v_15 c2 :: fz fBool.rep v_11 c1 :: inZ Z :: Jx :: L) := hO
    replace h := h.2
    refine hl_g rfl rfl (fun hg => (v_not rfl)) rfl (hl_v (v_and rfl rfl) rfl (hl_nil (thenQ_n (hw_sub _ (a_c 0 rfl (a_c 2 rfl (a_c 3 rfl (a_c 7 rfl (a_c 8 rfl (a_c 26 rfl a_n)))))) (hw_cond_t rfl (hw_ret (blockQ_r (thenQ_r (thenQ_r (blockQ_r (ret_i _ ra_nil ?_)))))))))))
    exact .inr ⟨_, (Own.sel (Ls := [_, _, _, _]) (L := L) [3] rfl hO)⟩
   ·replace hO : Own H_31 Z_32 (fz fBool.rep v_15 c2 :: fz fBool.rep v_11 c1 :: inZ Z :: J (y + 1) :: L) := hO
    replace h := h.1
    refine hl_g rfl rfl (fun hg => (v_not rfl)) rfl (hl_v (v_and rfl rfl) rfl (hl_nil (thenQ_n (hw_sub _ (a_c 0 rfl (a_c 2 rfl (a_c 3 rfl (a_c 7 rfl (a_c 8 rfl (a_c 26 rfl a_n)))))) (hw_cond_f rfl (hw_skip (blockQ_n (thenQ_n (hw_region ?_)))))))))
    obtain ⟨hs_33, h⟩ := h
    refine hl_v (v_add rfl rfl hs_33) rfl (hl_v (v_move rfl) rfl (hl_nil (thenQ_n ?_)))
    exact ⟨_, _, (a_c 0 rfl (a_c 2 rfl (a_c 3 rfl (a_c 7 rfl (a_c 8 rfl a_n))))), ⟨k + 1, (y + 1), _, rfl, rfl, h, hO⟩, (by have hq := of_decide_eq_true hc_24; omega)⟩
  ·replace h := ite_f h hc_28
   refine hl_gf rfl rfl rfl rfl (hl_gf rfl rfl rfl rfl (hl_gf rfl rfl rfl rfl (hl_gf rfl rfl rfl rfl (hl_v (v_and (b := true) rfl rfl) rfl (hl_nil (thenQ_n (hw_sub _ (a_c 0 rfl (a_c 2 rfl (a_c 3 rfl (a_c 7 rfl (a_c 8 rfl (a_c 26 rfl a_n)))))) (hw_cond_f rfl (hw_skip (blockQ_n (thenQ_n (hw_region ?_))))))))))))
   obtain ⟨hs_34, h⟩ := h
   refine hl_v (v_add rfl rfl hs_34) rfl (hl_v (v_move rfl) rfl (hl_nil (thenQ_n ?_)))
   exact ⟨_, _, (a_c 0 rfl (a_c 2 rfl (a_c 3 rfl (a_c 7 rfl (a_c 8 rfl a_n))))), ⟨k + 1, y, _, rfl, rfl, h, hO⟩, (by have hq := of_decide_eq_true hc_24; omega)⟩
 ·replace h := ite_f h hc_24
  refine hw_exit (thenQ_e (thenQ_e (blockQ_hit (ret_n _ ra_nil ?_))))
  exact .inl ⟨_, h, _, (Own.sel (Ls := [_, _, _, _]) (L := L) [3] rfl hO)⟩
theorem useful1_spec {a0 : GFst} {a1 : List Bool} {a2 : List Bool} {v_3 : Value} {v_5 : Value} {v_7 : Value} {v_11 : Value} {v_15 : Value} {b_2 : Nat} {b_10 : Nat} {b_14 : Nat} {L : List As} (hp : a1.length = a0.States.toNat ∧ a2.length = a0.States.toNat ∧ 0 ≤ a0.States ∧ a0.States ≤ 1024) (hf_4 : Fz fGTip.rep L v_3 a0.Starts) (hf_6 : Fz fGTip.rep L v_5 a0.Ends) (hf_8 : Fz fGArc.rep L v_7 a0.Arcs) (hb_9 : Bx L b_2 [.int .i64 a0.States, v_3, v_5, v_7] 25) (hf_12 : Fz fBool.rep L v_11 a1) (hb_13 : Bx L b_10 [v_11] 48) (hf_16 : Fz fBool.rep L v_15 a2) (hb_17 : Bx L b_14 [v_15] 48) : ItO Tryz.prog 42 [ptr b_2 0, ptr b_10 0, ptr b_14 0] L (fun x => [.int .i64 x]) (usefulL a0.States a1 a2) :=
  fun lab J Jx hY Z G hO => (useful1_ok (c0 := a0) (c1 := a1) (c2 := a2) (X := fun k x => k < (usefulL a0.States a1 a2).length ∧ (usefulL a0.States a1 a2).getD k default = x) (Q := fun k => k = (usefulL a0.States a1 a2).length) (fun k x hX => hY k x hX.1 hX.2) (@useful1_wp a0 a1 a2 hp) hO hf_4 hf_6 hf_8 hb_9 hf_12 hb_13 hf_16 hb_17).mono (fun v G' h => by
    rcases h with ⟨k, rfl, Z', h⟩ | ⟨Z', h⟩
    · exact ⟨Z', .inl h⟩
    · exact ⟨Z', .inr h⟩)
def usefulP_8_0_7 : Sch := .done
def usefulP_8_0_4 : Sch := (.more [] 12 (.step 13 true (.step 14 true usefulP_8_0_7)) (.last [12] 13 (.step 12 true (.step 14 true usefulP_8_0_7))))
def usefulP_8_0_5 : Sch := (.more [] 11 (.step 13 true (.step 14 true usefulP_8_0_7)) (.last [11] 13 (.step 11 true (.step 14 true usefulP_8_0_7))))
def usefulP_8_0_6 : Sch := (.more [] 11 (.step 12 true (.step 14 true usefulP_8_0_7)) (.last [11] 12 (.step 11 true (.step 14 true usefulP_8_0_7))))
def usefulP_8_0_1 : Sch := (.more [] 11 usefulP_8_0_4 (.more [11] 12 usefulP_8_0_5 (.last [11, 12] 13 usefulP_8_0_6)))
def usefulP_8_0_2 : Sch := (.more [] 5 usefulP_8_0_5 (.last [5] 13 (.step 5 true (.step 11 true (.step 14 true usefulP_8_0_7)))))
def usefulP_8_0_3 : Sch := (.more [] 5 usefulP_8_0_6 (.last [5] 12 (.step 5 true (.step 11 true (.step 14 true usefulP_8_0_7)))))
def usefulP_8_0_0 : Sch := (.more [] 5 usefulP_8_0_1 (.more [5] 12 usefulP_8_0_2 (.last [5, 12] 13 usefulP_8_0_3)))
abbrev zz1 (xon : List (List Int)) (t : GFst) (k : Nat) := (xon.set ((t.Arcs.getD k default).From).toNat ((xon.getD ((t.Arcs.getD k default).From).toNat default) ++ [(t.Arcs.getD k default).To]))
abbrev zz2 (t : GFst) (k : Nat) := (fGArc.enc (t.Arcs.getD k default))
abbrev zz3 (k : Nat) (t : GFst) := (decide ((k : Int) < (t.Arcs.length : Int)))
theorem usefulP_ok {t : GFst} {v_1 : Value} {v_3 : Value} {v_5 : Value} {Q : (GFst × (List Bool) × (List Bool)) → Prop} {H : Heap} {Z : Nat → Prop} {L : List As} (h : wp_usefulP t Q) (hO : Own H Z (L)) (hf_2 : Fz fGTip.rep L v_1 t.Starts) (hf_4 : Fz fGTip.rep L v_3 t.Ends) (hf_6 : Fz fGArc.rep L v_5 t.Arcs) : HC Tryz.prog 25 [.agg [.int .i64 t.States, v_1, v_3, v_5].toArray] H (fun v H' => ∃ (Z' : Nat → Prop) (r0 : GFst × (List Bool) × (List Bool)) (v_8 : Value) (v_10 : Value) (v_12 : Value) (v_15 : Value) (v_18 : Value) (b_7 : Nat) (b_14 : Nat) (b_17 : Nat), (∀ b, Z b → Z' b) ∧ Q r0 ∧ v = .func (.func 42) #[] #[ptr b_7 0, ptr b_14 0, ptr b_17 0] ∧ Own H' Z' (box b_7 [.int .i64 r0.1.States, v_8, v_10, v_12] 25 :: box b_14 [v_15] 48 :: box b_17 [v_18] 48 :: fz fGTip.rep v_8 r0.1.Starts :: fz fGTip.rep v_10 r0.1.Ends :: fz fGArc.rep v_12 r0.1.Arcs :: fz fBool.rep v_15 r0.2.1 :: fz fBool.rep v_18 r0.2.2 :: L)) := by
 replace hO := hO.inZ
 replace hO := Fz.items [_] hf_2 hO
 replace hO := Fz.items [_, _] hf_4 hO
 replace hO := Fz.items [_, _, _] hf_6 hO
 unfold wp_usefulP at h
 refine hc_of_hw (N := 62) (rs := [(.tmp 2)]) Tryz.func25 rfl rfl rfl rfl (hw_seq (hw_region (hl_h (o_box (cs := [.int .i64 t.States, v_1, v_3, v_5]) hO rfl rfl) rfl ?_)))
 rintro _ H_20 ⟨b_21, rfl, hO⟩
 refine hl_v (v_assign rfl) rfl (hl_nil (thenQ_n (hw_seq (hw_hj (fun f' H' => ∃ (v_23 : Value) (v_26 : Value) (Z' : Nat → Prop), AllIn f' [(1, ptr b_21 0), (3, v_23), (4, v_26)] ∧ Own H' Z' (ownN fInt 67 3 v_26 (List.replicate t.States.toNat []) :: ownN fInt 67 3 v_23 (List.replicate t.States.toNat []) :: box b_21 [.int .i64 t.States, v_1, v_3, v_5] 25 :: fz fGArc.rep v_5 t.Arcs :: fz fGTip.rep v_3 t.Ends :: fz fGTip.rep v_1 t.Starts :: inZ Z :: L)) ?_ ?_))))
 ·refine hw_held2 7 (fun H' => ∃ Z' : Nat → Prop, Own H' Z' (box b_21 [.int .i64 t.States, v_1, v_3, v_5] 25 :: fz fGArc.rep v_5 t.Arcs :: fz fGTip.rep v_3 t.Ends :: fz fGTip.rep v_1 t.Starts :: inZ Z :: L)) (.step 0 false (.step 1 false (.step 3 false (.step 4 false (.two 2 5 (.step 6 false (.step 5 true .done)) (.step 2 true (.step 6 false .done))))))) (.step 7 true .done) Tryz.mixed (by kernel_rfl) ⟨_, hO⟩ (hd_v rfl (fun _ _ => (v_fieldA underlying25 rfl sizeOf3 rfl)) rfl (hd_v rfl (fun H' hS => by obtain ⟨Z', hO⟩ := hS; exact (v_load1 isAgg3 rfl (Blk.cell (hO.box 0 rfl) rfl))) rfl (hd_v rfl (fun _ _ => (v_fieldA underlying25 rfl sizeOf3 rfl)) rfl (hd_v rfl (fun H' hS => by obtain ⟨Z', hO⟩ := hS; exact (v_load1 isAgg3 rfl (Blk.cell (hO.box 0 rfl) rfl))) rfl (hd_two ?_ ?_)))))
  ·obtain ⟨hs_24, h⟩ := h
   refine hd_h (o_makeN (g := fInt) (e' := 3) hO underlying97 type67 rfl rfl rfl rfl hs_24.1 hs_24.2.1 hs_24.2.2) (by rintro v_23 H_22 hO; exact ⟨_, (Own.sel (Ls := [_, _, _, _, _, _]) (L := L) [1, 2, 3, 4, 5] rfl hO)⟩) rfl ?_
   rintro v_23 H_22 hO
   refine hd_v rfl (fun _ _ => (v_assign rfl)) rfl (hd_h (o_makeN (g := fInt) (e' := 3) hO underlying97 type67 rfl rfl rfl rfl hs_24.1 hs_24.2.1 hs_24.2.2) (by rintro v_26 H_25 hO; exact ⟨_, (Own.sel (Ls := [_, _, _, _, _, _, _]) (L := L) [2, 3, 4, 5, 6] rfl hO)⟩) rfl ?_)
   rintro v_26 H_25 hO
   refine hd_nil (hd_h (OpV.toH (v_assign rfl)) (fun _ _ hR => trivial) rfl ?_)
   rintro vv HH ⟨hvv, hHH⟩
   obtain rfl := hvv.symm
   obtain rfl := hHH.symm
   refine hd_nil ?_
   exact ⟨rfl, v_23, v_26, _, (a_c 1 rfl (a_c 3 rfl (a_c 4 rfl a_n))), hO⟩
  ·obtain ⟨hs_29, h⟩ := h
   refine hd_h (o_makeN (g := fInt) (e' := 3) hO underlying97 type67 rfl rfl rfl rfl hs_29.1 hs_29.2.1 hs_29.2.2) (by rintro v_28 H_27 hO; exact ⟨_, (Own.sel (Ls := [_, _, _, _, _, _]) (L := L) [1, 2, 3, 4, 5] rfl hO)⟩) rfl ?_
   rintro v_28 H_27 hO
   refine hd_h (o_makeN (g := fInt) (e' := 3) hO underlying97 type67 rfl rfl rfl rfl hs_29.1 hs_29.2.1 hs_29.2.2) (by rintro v_31 H_30 hO; exact ⟨_, (Own.sel (Ls := [_, _, _, _, _, _, _]) (L := L) [2, 3, 4, 5, 6] rfl hO)⟩) rfl ?_
   rintro v_31 H_30 hO
   refine hd_v rfl (fun _ _ => (v_assign rfl)) rfl (hd_nil (hd_h (OpV.toH (v_assign rfl)) (fun _ _ hR => trivial) rfl ?_))
   rintro vv HH ⟨hvv, hHH⟩
   obtain rfl := hvv.symm
   obtain rfl := hHH.symm
   refine hd_nil ?_
   exact ⟨rfl, v_31, v_28, _, (a_c 1 rfl (a_c 3 rfl (a_c 4 rfl a_n))), (Own.sel (Ls := [_, _, _, _, _, _, _]) (L := L) [1, 0, 2, 3, 4, 5, 6] rfl hO)⟩
 ·rintro _ H_32 ⟨v_23, v_26, Z_33, hai, hO⟩
  obtain ⟨hs_24, h⟩ := h
  refine thenQ_n (hw_sub _ hai (hw_seq (hw_seq (hw_region (hl_v (v_fieldA underlying25 rfl sizeOf23 rfl) rfl (hl_v (v_load1 isAgg23 rfl (Blk.cell (hO.box 2 rfl) rfl)) rfl ?_))))))
  have hln_34 := Sl.cap (hO.fsl 3 rfl)
  refine hl_v (v_lenL rfl underlying23 rfl (hO.fsl 3 rfl)) rfl (hl_v (v_move rfl) rfl (hl_nil (thenQ_n (hw_block ?_))))
  obtain ⟨I_35, h, hI_37⟩ := h
  refine hw_lp (fun n' g' H' => ∃ (xon : List (List Int)) (back : List (List Int)) (k : Nat) (Z' : Nat → Prop), n' = t.Arcs.length - k ∧ g' = [(1, ptr b_21 0), (3, v_23), (4, v_26), (16, v_5), (17, .int .i64 (t.Arcs.length : Int)), (18, .int .i64 (k : Int))] ∧ I_35 xon back k ∧ k ≤ t.Arcs.length ∧ Own H' Z' (ownN fInt 67 3 v_26 back :: ownN fInt 67 3 v_23 xon :: box b_21 [.int .i64 t.States, v_1, v_3, v_5] 25 :: fz fGArc.rep v_5 t.Arcs :: fz fGTip.rep v_3 t.Ends :: fz fGTip.rep v_1 t.Starts :: inZ Z :: L)) _ _ (a_c 1 rfl (a_c 3 rfl (a_c 4 rfl (a_c 16 rfl (a_c 17 rfl (a_c 18 rfl a_n)))))) ⟨(List.replicate t.States.toNat []), (List.replicate t.States.toNat []), 0, _, rfl, rfl, h, by omega, hO⟩ ?_
  rintro _ _ H_38 ⟨xon, back, k, Z_39, rfl, rfl, h, hb_40, hO⟩
  replace h := hI_37 xon back k h hb_40
  refine hw_seq (hw_region (hl_v (v_lss rfl rfl) rfl (hl_nil (thenQ_n (hw_seq (hw_cond rfl (fun hc_41 => ?_) (fun hc_41 => ?_)))))))
  ·replace h := ite_t h hc_41
   refine hw_skip (thenQ_n (hw_seq (hw_block (hw_seq (hw_region (hl_v (v_ixL underlying23 sizeOf39 rfl rfl (hO.fsl 3 rfl) (by exact ⟨Int.natCast_nonneg _, of_decide_eq_true hc_41⟩)) rfl (hl_v (v_loadFl isAgg39 sizeOf39 rfl (hO.fsl 3 rfl) rfl (by exact ⟨Int.natCast_nonneg _, of_decide_eq_true hc_41⟩)) rfl (hl_h (o_alloc (cs := (fGArc.enc (⟨(0 : Int), (0 : Int), BSet.zero, ([] : List UInt8), false⟩ : GArc))) hO zeroValue39 rfl) rfl ?_))))))))
   rintro _ H_42 ⟨b_43, rfl, hO⟩
   refine hl_s (o_storeA (us := (zz2 t k)) hO 0 rfl sizeOf39 rfl rfl rfl rfl (by intro u hu; exact (fGArc).one _ u hu)) ?_
   rintro _ H_44 hO
   refine hl_nil (thenQ_n (hw_seq ?_))
   obtain ⟨hs_45, h⟩ := h
   replace hO := Own.sel (Ls := [box b_43 (zz2 t k) 39, ownN fInt 67 3 v_26 back, ownN fInt 67 3 v_23 xon, box b_21 [.int .i64 t.States, v_1, v_3, v_5] 25, fz fGArc.rep v_5 t.Arcs, fz fGTip.rep v_3 t.Ends, fz fGTip.rep v_1 t.Starts, inZ Z]) (L := L) [2, 0, 1, 3, 4, 5, 6, 7] rfl hO
   replace hO : Own H_44 Z_39 (ownN fInt 67 3 v_23 xon :: box b_43 (zz2 t k) 39 :: ownN fInt 67 3 v_26 back :: box b_21 [.int .i64 t.States, v_1, v_3, v_5] 25 :: fz fGArc.rep v_5 t.Arcs :: fz fGTip.rep v_3 t.Ends :: fz fGTip.rep v_1 t.Starts :: inZ Z :: L) := hO
   obtain ⟨vs_46, hl_47, hO⟩ := Own.take (k := ((t.Arcs.getD k default).From).toNat) hO (by have hq := hs_45; omega)
   replace hO : Own H_44 Z_39 (own fInt 3 (vs_46.getD (((t.Arcs.getD k default).From).toNat) default) (xon.getD ((t.Arcs.getD k default).From).toNat default) :: rowv 67 v_23 vs_46 :: innX fInt 3 vs_46 xon (((t.Arcs.getD k default).From).toNat) :: box b_43 (zz2 t k) 39 :: ownN fInt 67 3 v_26 back :: box b_21 [.int .i64 t.States, v_1, v_3, v_5] 25 :: fz fGArc.rep v_5 t.Arcs :: fz fGTip.rep v_3 t.Ends :: fz fGTip.rep v_1 t.Starts :: inZ Z :: L) := hO
   refine hw_held2 12 (fun H' => ∃ Z' : Nat → Prop, Own H' Z' (rowv 67 v_23 vs_46 :: innX fInt 3 vs_46 xon (((t.Arcs.getD k default).From).toNat) :: box b_43 (zz2 t k) 39 :: ownN fInt 67 3 v_26 back :: box b_21 [.int .i64 t.States, v_1, v_3, v_5] 25 :: fz fGArc.rep v_5 t.Arcs :: fz fGTip.rep v_3 t.Ends :: fz fGTip.rep v_1 t.Starts :: inZ Z :: L)) (.step 0 false (.step 1 false (.step 2 false (.step 3 false (.step 4 false (.step 5 false (.step 6 false (.step 7 false (.step 8 false (.step 9 false (.step 10 true (.step 11 true .done)))))))))))) (.step 12 true (.step 13 true .done)) Tryz.mixed (by kernel_rfl) ⟨_, (Own.sel (Ls := [_, _, _, _, _, _, _, _, _, _]) (L := L) [1, 2, 3, 4, 5, 6, 7, 8, 9] rfl hO)⟩ (hd_v rfl (fun _ _ => (v_move rfl)) rfl (hd_v rfl (fun _ _ => (v_fieldA underlying39 rfl sizeOf3 rfl)) rfl (hd_v rfl (fun H' hS => by obtain ⟨Z', hO⟩ := hS; exact (v_load1 isAgg3 rfl (Blk.cell (hO.box 2 rfl) rfl))) rfl (hd_v rfl (fun _ _ => (v_move rfl)) rfl (hd_v rfl (fun _ _ => (v_fieldA underlying39 rfl sizeOf3 rfl)) rfl (hd_v rfl (fun H' hS => by obtain ⟨Z', hO⟩ := hS; exact (v_load1 isAgg3 rfl (Blk.cell (hO.box 2 rfl) rfl))) rfl ?_))))))
   refine hd_v rfl (fun H' hS => by obtain ⟨Z', hO⟩ := hS; exact (v_ixL underlying97 sizeOf67 rfl rfl (hO.rw 0 rfl) (by rw [hl_47]; exact hs_45))) rfl (hd_v rfl (fun H' hS => by obtain ⟨Z', hO⟩ := hS; exact (v_rowLoad hO (i := 0) rfl isAgg67 rfl (by rw [hl_47]; exact hs_45))) rfl (hd_v rfl (fun _ _ => (v_fieldA underlying39 rfl sizeOf3 rfl)) rfl (hd_v rfl (fun H' hS => by obtain ⟨Z', hO⟩ := hS; exact (v_load1 isAgg3 rfl (Blk.cell (hO.box 2 rfl) rfl))) rfl (hd_h (o_lit (g := fInt) (l := [(t.Arcs.getD k default).To]) (xs := [.tmp 31]) hO underlying67 sizeOf3 zeroValue3 rfl (evs_cons rfl evs_nil) rfl rfl rfl rfl rfl) (by rintro v_49 H_48 hO; exact ⟨_, (Own.sel (Ls := [_, _, _, _, _, _, _, _, _, _, _]) (L := L) [2, 3, 4, 5, 6, 7, 8, 9, 10] rfl hO)⟩) rfl ?_))))
   rintro v_49 H_48 hO
   obtain ⟨hs_52, h⟩ := h
   refine hd_h (o_append (l2 := [(t.Arcs.getD k default).To]) hO 1 rfl rfl underlying67 type3 rfl rfl rfl rfl rfl rfl rfl (hO.osl 0 rfl) hs_52 (le63 hs_52 rfl)) (by rintro v_51 H_50 hO; exact ⟨_, (Own.sel (Ls := [_, _, _, _, _, _, _, _, _, _, _]) (L := L) [2, 3, 4, 5, 6, 7, 8, 9, 10] rfl hO)⟩) rfl ?_
   rintro v_51 H_50 hO
   refine hd_nil (hd_h (OpV.toH (v_ixL underlying97 sizeOf67 rfl rfl (hO.rw 2 rfl) (by rw [hl_47]; exact hs_45))) (fun _ _ hR => trivial) rfl ?_)
   rintro vv HH ⟨hvv, hHH⟩
   obtain rfl := hvv.symm
   obtain rfl := hHH.symm
   refine hd_s (o_rowStore hO (i := 2) rfl sizeOf67 rfl rfl (by rw [hl_47]; exact hs_45) (Sl.one (hO.osl 1 rfl))) (fun _ _ _ => trivial) ?_
   rintro _ H_53 hO
   refine hd_nil ?_
   replace hO := Own.back (Own.sel (Ls := [_, _, _, _, _, _, _, _, _, _, _]) (L := L) [1, 2, 3, 0, 4, 5, 6, 7, 8, 9, 10] rfl hO) hl_47 (by have hq := hs_45; omega)
   replace hO : Own H_53 Z_39 (ownN fInt 67 3 v_23 (zz1 xon t k) :: own fInt 3 v_49 [(t.Arcs.getD k default).To] :: box b_43 (zz2 t k) 39 :: ownN fInt 67 3 v_26 back :: box b_21 [.int .i64 t.States, v_1, v_3, v_5] 25 :: fz fGArc.rep v_5 t.Arcs :: fz fGTip.rep v_3 t.Ends :: fz fGTip.rep v_1 t.Starts :: inZ Z :: L) := hO
   refine thenQ_n ?_
   obtain ⟨hs_54, h⟩ := h
   replace hO := Own.sel (Ls := [ownN fInt 67 3 v_23 (zz1 xon t k), own fInt 3 v_49 [(t.Arcs.getD k default).To], box b_43 (zz2 t k) 39, ownN fInt 67 3 v_26 back, box b_21 [.int .i64 t.States, v_1, v_3, v_5] 25, fz fGArc.rep v_5 t.Arcs, fz fGTip.rep v_3 t.Ends, fz fGTip.rep v_1 t.Starts, inZ Z]) (L := L) [3, 0, 1, 2, 4, 5, 6, 7, 8] rfl hO
   replace hO : Own H_53 Z_39 (ownN fInt 67 3 v_26 back :: ownN fInt 67 3 v_23 (zz1 xon t k) :: own fInt 3 v_49 [(t.Arcs.getD k default).To] :: box b_43 (zz2 t k) 39 :: box b_21 [.int .i64 t.States, v_1, v_3, v_5] 25 :: fz fGArc.rep v_5 t.Arcs :: fz fGTip.rep v_3 t.Ends :: fz fGTip.rep v_1 t.Starts :: inZ Z :: L) := hO
   obtain ⟨vs_55, hl_56, hO⟩ := Own.take (k := ((t.Arcs.getD k default).To).toNat) hO (by have hq := hs_54; omega)
   replace hO : Own H_53 Z_39 (own fInt 3 (vs_55.getD (((t.Arcs.getD k default).To).toNat) default) (back.getD ((t.Arcs.getD k default).To).toNat default) :: rowv 67 v_26 vs_55 :: innX fInt 3 vs_55 back (((t.Arcs.getD k default).To).toNat) :: ownN fInt 67 3 v_23 (zz1 xon t k) :: own fInt 3 v_49 [(t.Arcs.getD k default).To] :: box b_43 (zz2 t k) 39 :: box b_21 [.int .i64 t.States, v_1, v_3, v_5] 25 :: fz fGArc.rep v_5 t.Arcs :: fz fGTip.rep v_3 t.Ends :: fz fGTip.rep v_1 t.Starts :: inZ Z :: L) := hO
   refine hw_held2 12 (fun H' => ∃ Z' : Nat → Prop, Own H' Z' (rowv 67 v_26 vs_55 :: innX fInt 3 vs_55 back (((t.Arcs.getD k default).To).toNat) :: ownN fInt 67 3 v_23 (zz1 xon t k) :: own fInt 3 v_49 [(t.Arcs.getD k default).To] :: box b_43 (zz2 t k) 39 :: box b_21 [.int .i64 t.States, v_1, v_3, v_5] 25 :: fz fGArc.rep v_5 t.Arcs :: fz fGTip.rep v_3 t.Ends :: fz fGTip.rep v_1 t.Starts :: inZ Z :: L)) (.step 0 false (.step 1 false (.step 2 false (.step 3 false (.step 4 false (.step 5 false (.step 6 false (.step 7 false (.step 8 false (.step 9 false (.step 10 true (.step 11 true .done)))))))))))) (.step 12 true (.step 13 true .done)) Tryz.mixed (by kernel_rfl) ⟨_, (Own.sel (Ls := [_, _, _, _, _, _, _, _, _, _, _]) (L := L) [1, 2, 3, 4, 5, 6, 7, 8, 9, 10] rfl hO)⟩ (hd_v rfl (fun _ _ => (v_move rfl)) rfl ?_)
   refine hd_v rfl (fun _ _ => (v_fieldA underlying39 rfl sizeOf3 rfl)) rfl (hd_v rfl (fun H' hS => by obtain ⟨Z', hO⟩ := hS; exact (v_load1 isAgg3 rfl (Blk.cell (hO.box 4 rfl) rfl))) rfl (hd_v rfl (fun _ _ => (v_move rfl)) rfl (hd_v rfl (fun _ _ => (v_fieldA underlying39 rfl sizeOf3 rfl)) rfl (hd_v rfl (fun H' hS => by obtain ⟨Z', hO⟩ := hS; exact (v_load1 isAgg3 rfl (Blk.cell (hO.box 4 rfl) rfl))) rfl (hd_v rfl (fun H' hS => by obtain ⟨Z', hO⟩ := hS; exact (v_ixL underlying97 sizeOf67 rfl rfl (hO.rw 0 rfl) (by rw [hl_56]; exact hs_54))) rfl (hd_v rfl (fun H' hS => by obtain ⟨Z', hO⟩ := hS; exact (v_rowLoad hO (i := 0) rfl isAgg67 rfl (by rw [hl_56]; exact hs_54))) rfl (hd_v rfl (fun _ _ => (v_fieldA underlying39 rfl sizeOf3 rfl)) rfl (hd_v rfl (fun H' hS => by obtain ⟨Z', hO⟩ := hS; exact (v_load1 isAgg3 rfl (Blk.cell (hO.box 4 rfl) rfl))) rfl (hd_h (o_lit (g := fInt) (l := [(t.Arcs.getD k default).From]) (xs := [.tmp 44]) hO underlying67 sizeOf3 zeroValue3 rfl (evs_cons rfl evs_nil) rfl rfl rfl rfl rfl) (by rintro v_58 H_57 hO; exact ⟨_, (Own.sel (Ls := [_, _, _, _, _, _, _, _, _, _, _, _]) (L := L) [2, 3, 4, 5, 6, 7, 8, 9, 10, 11] rfl hO)⟩) rfl ?_)))))))))
   rintro v_58 H_57 hO
   obtain ⟨hs_61, h⟩ := h
   refine hd_h (o_append (l2 := [(t.Arcs.getD k default).From]) hO 1 rfl rfl underlying67 type3 rfl rfl rfl rfl rfl rfl rfl (hO.osl 0 rfl) hs_61 (le63 hs_61 rfl)) (by rintro v_60 H_59 hO; exact ⟨_, (Own.sel (Ls := [_, _, _, _, _, _, _, _, _, _, _, _]) (L := L) [2, 3, 4, 5, 6, 7, 8, 9, 10, 11] rfl hO)⟩) rfl ?_
   rintro v_60 H_59 hO
   refine hd_nil (hd_h (OpV.toH (v_ixL underlying97 sizeOf67 rfl rfl (hO.rw 2 rfl) (by rw [hl_56]; exact hs_54))) (fun _ _ hR => trivial) rfl ?_)
   rintro vv HH ⟨hvv, hHH⟩
   obtain rfl := hvv.symm
   obtain rfl := hHH.symm
   refine hd_s (o_rowStore hO (i := 2) rfl sizeOf67 rfl rfl (by rw [hl_56]; exact hs_54) (Sl.one (hO.osl 1 rfl))) (fun _ _ _ => trivial) ?_
   rintro _ H_62 hO
   refine hd_nil ?_
   replace hO := Own.back (Own.sel (Ls := [_, _, _, _, _, _, _, _, _, _, _, _]) (L := L) [1, 2, 3, 0, 4, 5, 6, 7, 8, 9, 10, 11] rfl hO) hl_56 (by have hq := hs_54; omega)
   replace hO : Own H_62 Z_39 (ownN fInt 67 3 v_26 (back.set ((t.Arcs.getD k default).To).toNat ((back.getD ((t.Arcs.getD k default).To).toNat default) ++ [(t.Arcs.getD k default).From])) :: own fInt 3 v_58 [(t.Arcs.getD k default).From] :: ownN fInt 67 3 v_23 (zz1 xon t k) :: own fInt 3 v_49 [(t.Arcs.getD k default).To] :: box b_43 (zz2 t k) 39 :: box b_21 [.int .i64 t.States, v_1, v_3, v_5] 25 :: fz fGArc.rep v_5 t.Arcs :: fz fGTip.rep v_3 t.Ends :: fz fGTip.rep v_1 t.Starts :: inZ Z :: L) := hO
   refine blockQ_n (thenQ_n (hw_region (hl_v (v_add rfl rfl (by have hq := of_decide_eq_true hc_41; have hm := hln_34; constructor <;> omega)) rfl (hl_v (v_move rfl) rfl (hl_nil (thenQ_n ?_))))))
   exact ⟨_, _, (a_c 1 rfl (a_c 3 rfl (a_c 4 rfl (a_c 16 rfl (a_c 17 rfl (a_c 18 rfl a_n)))))), ⟨(zz1 xon t k), (back.set ((t.Arcs.getD k default).To).toNat ((back.getD ((t.Arcs.getD k default).To).toNat default) ++ [(t.Arcs.getD k default).From])), k + 1, _, rfl, rfl, h, (by have hq := of_decide_eq_true hc_41; omega), (Own.sel (Ls := [_, _, _, _, _, _, _, _, _, _]) (L := L) [0, 2, 5, 6, 7, 8, 9] rfl hO)⟩, (by have hq := of_decide_eq_true hc_41; omega)⟩
  ·replace h := ite_f h hc_41
   refine hw_exit (thenQ_e (thenQ_e (blockQ_hit (thenQ_n (hw_seq ?_)))))
   obtain ⟨hs_9063, h⟩ := h
   obtain ⟨hs_9064, h⟩ := h
   refine hw_hj (fun f' H' => ∃ (v_8067 : Value) (v_8073 : Value) (b_3064 : Nat) (b_8064 : Nat) (Z' : Nat → Prop), AllIn f' [(1, ptr b_21 0), (7, ptr b_3064 0), (8, ptr b_8064 0)] ∧ Own H' Z' (own fBool 4 v_8073 (reachL t.States t.Ends back) :: own fBool 4 v_8067 (reachL t.States t.Starts xon) :: box b_8064 [v_8073] 48 :: box b_3064 [v_8067] 48 :: fz (Rep.sl fInt.rep) v_26 back :: fz (Rep.sl fInt.rep) v_23 xon :: box b_21 [.int .i64 t.States, v_1, v_3, v_5] 25 :: fz fGArc.rep v_5 t.Arcs :: fz fGTip.rep v_3 t.Ends :: fz fGTip.rep v_1 t.Starts :: inZ Z :: L)) ?_ ?_
   ·refine hw_held2 15 (fun H' => ∃ Z' : Nat → Prop, Own H' Z' (box b_21 [.int .i64 t.States, v_1, v_3, v_5] 25 :: fz fGArc.rep v_5 t.Arcs :: fz fGTip.rep v_3 t.Ends :: fz fGTip.rep v_1 t.Starts :: inZ Z :: L)) (.step 0 false (.step 1 false (.step 2 false (.step 3 false (.step 4 false (.step 6 false (.step 7 false (.step 8 false (.step 9 false (.step 10 false usefulP_8_0_0)))))))))) (.step 15 true .done) Tryz.mixed (by kernel_rfl) ⟨_, (Own.sel (Ls := [_, _, _, _, _, _, _]) (L := L) [2, 3, 4, 5, 6] rfl hO)⟩ (hd_abs fun G hG => ?_)
    have husefulP_8_0_7 : ∀ (v_8067 : Value) (v_8073 : Value) (b_3064 : Nat) (b_8064 : Nat) (Zn : Nat → Prop) (Hn : Heap), Own Hn Zn (own fBool 4 v_8073 (reachL t.States t.Ends back) :: own fBool 4 v_8067 (reachL t.States t.Starts xon) :: box b_8064 [.slice none 0 0] 48 :: box b_3064 [v_8067] 48 :: fz (Rep.sl fInt.rep) v_26 back :: fz (Rep.sl fInt.rep) v_23 xon :: box b_21 [.int .i64 t.States, v_1, v_3, v_5] 25 :: fz fGArc.rep v_5 t.Arcs :: fz fGTip.rep v_3 t.Ends :: fz fGTip.rep v_1 t.Starts :: inZ Z :: L) → G usefulP_8_0_7 [(1, ptr b_21 0), (3, v_23), (4, v_26), (7, ptr b_3064 0), (8, ptr b_8064 0), (16, v_5), (17, .int .i64 (t.Arcs.length : Int)), (18, .int .i64 (k : Int)), (19, .bool (zz3 k t)), (49, ptr b_21 0), (50, .int .i64 t.States), (51, ptr b_21 1), (52, v_1), (53, v_23), (54, v_8067), (55, ptr b_21 0), (56, .int .i64 t.States), (57, ptr b_21 2), (58, v_3), (59, v_26), (60, v_8073)] Hn := by
     intro v_8067 v_8073 b_3064 b_8064 Zn Hn hO
     refine Eq.mpr (hG _ _ _) (hd_nil (hd_s (o_store1 hO 2 rfl sizeOf48 rfl rfl rfl (Sl.one (hO.osl 0 rfl))) (fun _ _ _ => trivial) ?_))
     rintro _ H_10065 hO
     refine hd_nil ?_
     exact ⟨rfl, v_8067, v_8073, b_3064, b_8064, _, (a_c 1 rfl (a_c 7 rfl (a_c 8 rfl a_n))), hO⟩
    have husefulP_8_0_4 : ∀ (v_2065 : Value) (v_5065 : Value) (Zn : Nat → Prop) (Hn : Heap), Own Hn Zn (own fBool 4 v_5065 (reachL t.States t.Ends back) :: own fBool 4 v_2065 (reachL t.States t.Starts xon) :: fz (Rep.sl fInt.rep) v_26 back :: fz (Rep.sl fInt.rep) v_23 xon :: box b_21 [.int .i64 t.States, v_1, v_3, v_5] 25 :: fz fGArc.rep v_5 t.Arcs :: fz fGTip.rep v_3 t.Ends :: fz fGTip.rep v_1 t.Starts :: inZ Z :: L) → G usefulP_8_0_4 [(1, ptr b_21 0), (3, v_23), (4, v_26), (16, v_5), (17, .int .i64 (t.Arcs.length : Int)), (18, .int .i64 (k : Int)), (19, .bool (zz3 k t)), (49, ptr b_21 0), (50, .int .i64 t.States), (51, ptr b_21 1), (52, v_1), (53, v_23), (54, v_2065), (55, ptr b_21 0), (56, .int .i64 t.States), (57, ptr b_21 2), (58, v_3), (59, v_26), (60, v_5065)] Hn := by
     intro v_2065 v_5065 Zn Hn hO
     refine Eq.mpr (hG _ _ _) (hd_more ?_ ?_)
     ·refine hd_h (o_alloc (cs := [.slice none 0 0]) hO zeroValue48 rfl) (by rintro _ H_10066 ⟨b_10067, rfl, hO⟩; exact ⟨_, (Own.sel (Ls := [_, _, _, _, _, _, _, _, _, _]) (L := L) [5, 6, 7, 8, 9] rfl hO)⟩) rfl ?_
      rintro _ H_10066 ⟨b_10067, rfl, hO⟩
      refine hd_h (o_alloc (cs := [.slice none 0 0]) hO zeroValue48 rfl) (by rintro _ H_10068 ⟨b_10069, rfl, hO⟩; exact ⟨_, (Own.sel (Ls := [_, _, _, _, _, _, _, _, _, _, _]) (L := L) [6, 7, 8, 9, 10] rfl hO)⟩) rfl ?_
      rintro _ H_10068 ⟨b_10069, rfl, hO⟩
      refine hd_s (o_store1 hO 1 rfl sizeOf48 rfl rfl rfl (Sl.one (hO.osl 3 rfl))) (by rintro _ H_10070 hO; exact ⟨_, (Own.sel (Ls := [_, _, _, _, _, _, _, _, _, _, _]) (L := L) [6, 7, 8, 9, 10] rfl hO)⟩) ?_
      rintro _ H_10070 hO
      exact hd_sub _ (a_c 1 rfl (a_c 3 rfl (a_c 4 rfl (a_c 7 rfl (a_c 8 rfl (a_c 16 rfl (a_c 17 rfl (a_c 18 rfl (a_c 19 rfl (a_c 49 rfl (a_c 50 rfl (a_c 51 rfl (a_c 52 rfl (a_c 53 rfl (a_c 54 rfl (a_c 55 rfl (a_c 56 rfl (a_c 57 rfl (a_c 58 rfl (a_c 59 rfl (a_c 60 rfl a_n))))))))))))))))))))) (Eq.mp (hG usefulP_8_0_7 _ _) (husefulP_8_0_7 v_2065 v_5065 b_10067 b_10069 _ _ (Own.sel (Ls := [_, _, _, _, _, _, _, _, _, _, _]) (L := L) [2, 3, 0, 1, 4, 5, 6, 7, 8, 9, 10] rfl hO)))
     refine hd_last (hd_h (o_alloc (cs := [.slice none 0 0]) hO zeroValue48 rfl) (by rintro _ H_10071 ⟨b_10072, rfl, hO⟩; exact ⟨_, (Own.sel (Ls := [_, _, _, _, _, _, _, _, _, _]) (L := L) [5, 6, 7, 8, 9] rfl hO)⟩) rfl ?_)
     rintro _ H_10071 ⟨b_10072, rfl, hO⟩
     refine hd_h (o_alloc (cs := [.slice none 0 0]) hO zeroValue48 rfl) (by rintro _ H_10073 ⟨b_10074, rfl, hO⟩; exact ⟨_, (Own.sel (Ls := [_, _, _, _, _, _, _, _, _, _, _]) (L := L) [6, 7, 8, 9, 10] rfl hO)⟩) rfl ?_
     rintro _ H_10073 ⟨b_10074, rfl, hO⟩
     refine hd_s (o_store1 hO 0 rfl sizeOf48 rfl rfl rfl (Sl.one (hO.osl 3 rfl))) (by rintro _ H_10075 hO; exact ⟨_, (Own.sel (Ls := [_, _, _, _, _, _, _, _, _, _, _]) (L := L) [6, 7, 8, 9, 10] rfl hO)⟩) ?_
     rintro _ H_10075 hO
     exact hd_sub _ (a_c 1 rfl (a_c 3 rfl (a_c 4 rfl (a_c 7 rfl (a_c 8 rfl (a_c 16 rfl (a_c 17 rfl (a_c 18 rfl (a_c 19 rfl (a_c 49 rfl (a_c 50 rfl (a_c 51 rfl (a_c 52 rfl (a_c 53 rfl (a_c 54 rfl (a_c 55 rfl (a_c 56 rfl (a_c 57 rfl (a_c 58 rfl (a_c 59 rfl (a_c 60 rfl a_n))))))))))))))))))))) (Eq.mp (hG usefulP_8_0_7 _ _) (husefulP_8_0_7 v_2065 v_5065 b_10074 b_10072 _ _ (Own.sel (Ls := [_, _, _, _, _, _, _, _, _, _, _]) (L := L) [2, 3, 1, 0, 4, 5, 6, 7, 8, 9, 10] rfl hO)))
    have husefulP_8_0_5 : ∀ (v_2065 : Value) (b_6064 : Nat) (Zn : Nat → Prop) (Hn : Heap), Own Hn Zn (box b_6064 [.slice none 0 0] 48 :: own fBool 4 v_2065 (reachL t.States t.Starts xon) :: ownN fInt 67 3 v_26 back :: fz (Rep.sl fInt.rep) v_23 xon :: box b_21 [.int .i64 t.States, v_1, v_3, v_5] 25 :: fz fGArc.rep v_5 t.Arcs :: fz fGTip.rep v_3 t.Ends :: fz fGTip.rep v_1 t.Starts :: inZ Z :: L) → G usefulP_8_0_5 [(1, ptr b_21 0), (3, v_23), (4, v_26), (7, ptr b_6064 0), (16, v_5), (17, .int .i64 (t.Arcs.length : Int)), (18, .int .i64 (k : Int)), (19, .bool (zz3 k t)), (49, ptr b_21 0), (50, .int .i64 t.States), (51, ptr b_21 1), (52, v_1), (53, v_23), (54, v_2065), (55, ptr b_21 0), (56, .int .i64 t.States), (57, ptr b_21 2), (58, v_3), (59, v_26)] Hn := by
     intro v_2065 b_6064 Zn Hn hO
     refine Eq.mpr (hG _ _ _) (hd_more ?_ ?_)
     ·obtain ⟨Z_10076, _, hO⟩ := hO.freezeN (i := 2) rfl
      refine hd_h (h_call call41 (evs_cons rfl (evs_cons rfl (evs_cons rfl evs_nil))) (reachP_spec (a0 := t.States) (a1 := t.Ends) (a2 := back) hs_9064 hO (Rd.of_fz (i := 6) rfl) (Fz.of (i := 2) rfl))) (by rintro v_10077 H_10078 ⟨Z_10079, _, _, rfl, hO⟩; exact ⟨_, (Own.sel (Ls := [_, _, _, _, _, _, _, _, _, _]) (L := L) [5, 6, 7, 8, 9] rfl hO)⟩) rfl ?_
      rintro v_10077 H_10078 ⟨Z_10079, _, _, rfl, hO⟩
      refine hd_h (o_alloc (cs := [.slice none 0 0]) hO zeroValue48 rfl) (by rintro _ H_10081 ⟨b_10082, rfl, hO⟩; exact ⟨_, (Own.sel (Ls := [_, _, _, _, _, _, _, _, _, _, _]) (L := L) [6, 7, 8, 9, 10] rfl hO)⟩) rfl ?_
      rintro _ H_10081 ⟨b_10082, rfl, hO⟩
      refine hd_s (o_store1 hO 2 rfl sizeOf48 rfl rfl rfl (Sl.one (hO.osl 3 rfl))) (by rintro _ H_10083 hO; exact ⟨_, (Own.sel (Ls := [_, _, _, _, _, _, _, _, _, _, _]) (L := L) [6, 7, 8, 9, 10] rfl hO)⟩) ?_
      rintro _ H_10083 hO
      exact hd_sub _ (a_c 1 rfl (a_c 3 rfl (a_c 4 rfl (a_c 7 rfl (a_c 8 rfl (a_c 16 rfl (a_c 17 rfl (a_c 18 rfl (a_c 19 rfl (a_c 49 rfl (a_c 50 rfl (a_c 51 rfl (a_c 52 rfl (a_c 53 rfl (a_c 54 rfl (a_c 55 rfl (a_c 56 rfl (a_c 57 rfl (a_c 58 rfl (a_c 59 rfl (a_c 60 rfl a_n))))))))))))))))))))) (Eq.mp (hG usefulP_8_0_7 _ _) (husefulP_8_0_7 v_2065 v_10077 b_6064 b_10082 _ _ (Own.sel (Ls := [_, _, _, _, _, _, _, _, _, _, _]) (L := L) [1, 3, 0, 2, 4, 5, 6, 7, 8, 9, 10] rfl hO)))
     refine hd_last (hd_h (o_alloc (cs := [.slice none 0 0]) hO zeroValue48 rfl) (by rintro _ H_10084 ⟨b_10085, rfl, hO⟩; exact ⟨_, (Own.sel (Ls := [_, _, _, _, _, _, _, _, _, _]) (L := L) [5, 6, 7, 8, 9] rfl hO)⟩) rfl ?_)
     rintro _ H_10084 ⟨b_10085, rfl, hO⟩
     obtain ⟨Z_10086, _, hO⟩ := hO.freezeN (i := 3) rfl
     refine hd_h (h_call call41 (evs_cons rfl (evs_cons rfl (evs_cons rfl evs_nil))) (reachP_spec (a0 := t.States) (a1 := t.Ends) (a2 := back) hs_9064 hO (Rd.of_fz (i := 7) rfl) (Fz.of (i := 3) rfl))) (by rintro v_10087 H_10088 ⟨Z_10089, _, _, rfl, hO⟩; exact ⟨_, (Own.sel (Ls := [_, _, _, _, _, _, _, _, _, _, _]) (L := L) [6, 7, 8, 9, 10] rfl hO)⟩) rfl ?_
     rintro v_10087 H_10088 ⟨Z_10089, _, _, rfl, hO⟩
     refine hd_s (o_store1 hO 2 rfl sizeOf48 rfl rfl rfl (Sl.one (hO.osl 3 rfl))) (by rintro _ H_10091 hO; exact ⟨_, (Own.sel (Ls := [_, _, _, _, _, _, _, _, _, _, _]) (L := L) [6, 7, 8, 9, 10] rfl hO)⟩) ?_
     rintro _ H_10091 hO
     exact hd_sub _ (a_c 1 rfl (a_c 3 rfl (a_c 4 rfl (a_c 7 rfl (a_c 8 rfl (a_c 16 rfl (a_c 17 rfl (a_c 18 rfl (a_c 19 rfl (a_c 49 rfl (a_c 50 rfl (a_c 51 rfl (a_c 52 rfl (a_c 53 rfl (a_c 54 rfl (a_c 55 rfl (a_c 56 rfl (a_c 57 rfl (a_c 58 rfl (a_c 59 rfl (a_c 60 rfl a_n))))))))))))))))))))) (Eq.mp (hG usefulP_8_0_7 _ _) (husefulP_8_0_7 v_2065 v_10087 b_6064 b_10085 _ _ (Own.sel (Ls := [_, _, _, _, _, _, _, _, _, _, _]) (L := L) [0, 3, 1, 2, 4, 5, 6, 7, 8, 9, 10] rfl hO)))
    have husefulP_8_0_6 : ∀ (v_2065 : Value) (b_7064 : Nat) (Zn : Nat → Prop) (Hn : Heap), Own Hn Zn (box b_7064 [.slice none 0 0] 48 :: own fBool 4 v_2065 (reachL t.States t.Starts xon) :: ownN fInt 67 3 v_26 back :: fz (Rep.sl fInt.rep) v_23 xon :: box b_21 [.int .i64 t.States, v_1, v_3, v_5] 25 :: fz fGArc.rep v_5 t.Arcs :: fz fGTip.rep v_3 t.Ends :: fz fGTip.rep v_1 t.Starts :: inZ Z :: L) → G usefulP_8_0_6 [(1, ptr b_21 0), (3, v_23), (4, v_26), (8, ptr b_7064 0), (16, v_5), (17, .int .i64 (t.Arcs.length : Int)), (18, .int .i64 (k : Int)), (19, .bool (zz3 k t)), (49, ptr b_21 0), (50, .int .i64 t.States), (51, ptr b_21 1), (52, v_1), (53, v_23), (54, v_2065), (55, ptr b_21 0), (56, .int .i64 t.States), (57, ptr b_21 2), (58, v_3), (59, v_26)] Hn := by
     intro v_2065 b_7064 Zn Hn hO
     refine Eq.mpr (hG _ _ _) (hd_more ?_ ?_)
     ·obtain ⟨Z_10092, _, hO⟩ := hO.freezeN (i := 2) rfl
      refine hd_h (h_call call41 (evs_cons rfl (evs_cons rfl (evs_cons rfl evs_nil))) (reachP_spec (a0 := t.States) (a1 := t.Ends) (a2 := back) hs_9064 hO (Rd.of_fz (i := 6) rfl) (Fz.of (i := 2) rfl))) (by rintro v_10093 H_10094 ⟨Z_10095, _, _, rfl, hO⟩; exact ⟨_, (Own.sel (Ls := [_, _, _, _, _, _, _, _, _, _]) (L := L) [5, 6, 7, 8, 9] rfl hO)⟩) rfl ?_
      rintro v_10093 H_10094 ⟨Z_10095, _, _, rfl, hO⟩
      refine hd_h (o_alloc (cs := [.slice none 0 0]) hO zeroValue48 rfl) (by rintro _ H_10097 ⟨b_10098, rfl, hO⟩; exact ⟨_, (Own.sel (Ls := [_, _, _, _, _, _, _, _, _, _, _]) (L := L) [6, 7, 8, 9, 10] rfl hO)⟩) rfl ?_
      rintro _ H_10097 ⟨b_10098, rfl, hO⟩
      refine hd_s (o_store1 hO 0 rfl sizeOf48 rfl rfl rfl (Sl.one (hO.osl 3 rfl))) (by rintro _ H_10099 hO; exact ⟨_, (Own.sel (Ls := [_, _, _, _, _, _, _, _, _, _, _]) (L := L) [6, 7, 8, 9, 10] rfl hO)⟩) ?_
      rintro _ H_10099 hO
      exact hd_sub _ (a_c 1 rfl (a_c 3 rfl (a_c 4 rfl (a_c 7 rfl (a_c 8 rfl (a_c 16 rfl (a_c 17 rfl (a_c 18 rfl (a_c 19 rfl (a_c 49 rfl (a_c 50 rfl (a_c 51 rfl (a_c 52 rfl (a_c 53 rfl (a_c 54 rfl (a_c 55 rfl (a_c 56 rfl (a_c 57 rfl (a_c 58 rfl (a_c 59 rfl (a_c 60 rfl a_n))))))))))))))))))))) (Eq.mp (hG usefulP_8_0_7 _ _) (husefulP_8_0_7 v_2065 v_10093 b_10098 b_7064 _ _ (Own.sel (Ls := [_, _, _, _, _, _, _, _, _, _, _]) (L := L) [1, 3, 2, 0, 4, 5, 6, 7, 8, 9, 10] rfl hO)))
     refine hd_last (hd_h (o_alloc (cs := [.slice none 0 0]) hO zeroValue48 rfl) (by rintro _ H_10100 ⟨b_10101, rfl, hO⟩; exact ⟨_, (Own.sel (Ls := [_, _, _, _, _, _, _, _, _, _]) (L := L) [5, 6, 7, 8, 9] rfl hO)⟩) rfl ?_)
     rintro _ H_10100 ⟨b_10101, rfl, hO⟩
     obtain ⟨Z_10102, _, hO⟩ := hO.freezeN (i := 3) rfl
     refine hd_h (h_call call41 (evs_cons rfl (evs_cons rfl (evs_cons rfl evs_nil))) (reachP_spec (a0 := t.States) (a1 := t.Ends) (a2 := back) hs_9064 hO (Rd.of_fz (i := 7) rfl) (Fz.of (i := 3) rfl))) (by rintro v_10103 H_10104 ⟨Z_10105, _, _, rfl, hO⟩; exact ⟨_, (Own.sel (Ls := [_, _, _, _, _, _, _, _, _, _, _]) (L := L) [6, 7, 8, 9, 10] rfl hO)⟩) rfl ?_
     rintro v_10103 H_10104 ⟨Z_10105, _, _, rfl, hO⟩
     refine hd_s (o_store1 hO 1 rfl sizeOf48 rfl rfl rfl (Sl.one (hO.osl 3 rfl))) (by rintro _ H_10107 hO; exact ⟨_, (Own.sel (Ls := [_, _, _, _, _, _, _, _, _, _, _]) (L := L) [6, 7, 8, 9, 10] rfl hO)⟩) ?_
     rintro _ H_10107 hO
     exact hd_sub _ (a_c 1 rfl (a_c 3 rfl (a_c 4 rfl (a_c 7 rfl (a_c 8 rfl (a_c 16 rfl (a_c 17 rfl (a_c 18 rfl (a_c 19 rfl (a_c 49 rfl (a_c 50 rfl (a_c 51 rfl (a_c 52 rfl (a_c 53 rfl (a_c 54 rfl (a_c 55 rfl (a_c 56 rfl (a_c 57 rfl (a_c 58 rfl (a_c 59 rfl (a_c 60 rfl a_n))))))))))))))))))))) (Eq.mp (hG usefulP_8_0_7 _ _) (husefulP_8_0_7 v_2065 v_10103 b_10101 b_7064 _ _ (Own.sel (Ls := [_, _, _, _, _, _, _, _, _, _, _]) (L := L) [0, 3, 2, 1, 4, 5, 6, 7, 8, 9, 10] rfl hO)))
    have husefulP_8_0_1 : ∀ (v_2065 : Value) (Zn : Nat → Prop) (Hn : Heap), Own Hn Zn (own fBool 4 v_2065 (reachL t.States t.Starts xon) :: ownN fInt 67 3 v_26 back :: fz (Rep.sl fInt.rep) v_23 xon :: box b_21 [.int .i64 t.States, v_1, v_3, v_5] 25 :: fz fGArc.rep v_5 t.Arcs :: fz fGTip.rep v_3 t.Ends :: fz fGTip.rep v_1 t.Starts :: inZ Z :: L) → G usefulP_8_0_1 [(1, ptr b_21 0), (3, v_23), (4, v_26), (16, v_5), (17, .int .i64 (t.Arcs.length : Int)), (18, .int .i64 (k : Int)), (19, .bool (zz3 k t)), (49, ptr b_21 0), (50, .int .i64 t.States), (51, ptr b_21 1), (52, v_1), (53, v_23), (54, v_2065), (55, ptr b_21 0), (56, .int .i64 t.States), (57, ptr b_21 2), (58, v_3), (59, v_26)] Hn := by
     intro v_2065 Zn Hn hO
     refine Eq.mpr (hG _ _ _) (hd_more ?_ ?_)
     ·obtain ⟨Z_10108, _, hO⟩ := hO.freezeN (i := 1) rfl
      refine hd_h (h_call call41 (evs_cons rfl (evs_cons rfl (evs_cons rfl evs_nil))) (reachP_spec (a0 := t.States) (a1 := t.Ends) (a2 := back) hs_9064 hO (Rd.of_fz (i := 5) rfl) (Fz.of (i := 1) rfl))) (by rintro v_10109 H_10110 ⟨Z_10111, _, _, rfl, hO⟩; exact ⟨_, (Own.sel (Ls := [_, _, _, _, _, _, _, _, _]) (L := L) [4, 5, 6, 7, 8] rfl hO)⟩) rfl ?_
      rintro v_10109 H_10110 ⟨Z_10111, _, _, rfl, hO⟩
      exact hd_sub _ (a_c 1 rfl (a_c 3 rfl (a_c 4 rfl (a_c 16 rfl (a_c 17 rfl (a_c 18 rfl (a_c 19 rfl (a_c 49 rfl (a_c 50 rfl (a_c 51 rfl (a_c 52 rfl (a_c 53 rfl (a_c 54 rfl (a_c 55 rfl (a_c 56 rfl (a_c 57 rfl (a_c 58 rfl (a_c 59 rfl (a_c 60 rfl a_n))))))))))))))))))) (Eq.mp (hG usefulP_8_0_4 _ _) (husefulP_8_0_4 v_2065 v_10109 _ _ hO))
     refine hd_more ?_ ?_
     ·refine hd_h (o_alloc (cs := [.slice none 0 0]) hO zeroValue48 rfl) (by rintro _ H_10113 ⟨b_10114, rfl, hO⟩; exact ⟨_, (Own.sel (Ls := [_, _, _, _, _, _, _, _, _]) (L := L) [4, 5, 6, 7, 8] rfl hO)⟩) rfl ?_
      rintro _ H_10113 ⟨b_10114, rfl, hO⟩
      exact hd_sub _ (a_c 1 rfl (a_c 3 rfl (a_c 4 rfl (a_c 7 rfl (a_c 16 rfl (a_c 17 rfl (a_c 18 rfl (a_c 19 rfl (a_c 49 rfl (a_c 50 rfl (a_c 51 rfl (a_c 52 rfl (a_c 53 rfl (a_c 54 rfl (a_c 55 rfl (a_c 56 rfl (a_c 57 rfl (a_c 58 rfl (a_c 59 rfl a_n))))))))))))))))))) (Eq.mp (hG usefulP_8_0_5 _ _) (husefulP_8_0_5 v_2065 b_10114 _ _ hO))
     refine hd_last (hd_h (o_alloc (cs := [.slice none 0 0]) hO zeroValue48 rfl) (by rintro _ H_10115 ⟨b_10116, rfl, hO⟩; exact ⟨_, (Own.sel (Ls := [_, _, _, _, _, _, _, _, _]) (L := L) [4, 5, 6, 7, 8] rfl hO)⟩) rfl ?_)
     rintro _ H_10115 ⟨b_10116, rfl, hO⟩
     exact hd_sub _ (a_c 1 rfl (a_c 3 rfl (a_c 4 rfl (a_c 8 rfl (a_c 16 rfl (a_c 17 rfl (a_c 18 rfl (a_c 19 rfl (a_c 49 rfl (a_c 50 rfl (a_c 51 rfl (a_c 52 rfl (a_c 53 rfl (a_c 54 rfl (a_c 55 rfl (a_c 56 rfl (a_c 57 rfl (a_c 58 rfl (a_c 59 rfl a_n))))))))))))))))))) (Eq.mp (hG usefulP_8_0_6 _ _) (husefulP_8_0_6 v_2065 b_10116 _ _ hO))
    have husefulP_8_0_2 : ∀ (b_3064 : Nat) (Zn : Nat → Prop) (Hn : Heap), Own Hn Zn (box b_3064 [.slice none 0 0] 48 :: ownN fInt 67 3 v_26 back :: ownN fInt 67 3 v_23 xon :: box b_21 [.int .i64 t.States, v_1, v_3, v_5] 25 :: fz fGArc.rep v_5 t.Arcs :: fz fGTip.rep v_3 t.Ends :: fz fGTip.rep v_1 t.Starts :: inZ Z :: L) → G usefulP_8_0_2 [(1, ptr b_21 0), (3, v_23), (4, v_26), (7, ptr b_3064 0), (16, v_5), (17, .int .i64 (t.Arcs.length : Int)), (18, .int .i64 (k : Int)), (19, .bool (zz3 k t)), (49, ptr b_21 0), (50, .int .i64 t.States), (51, ptr b_21 1), (52, v_1), (53, v_23), (55, ptr b_21 0), (56, .int .i64 t.States), (57, ptr b_21 2), (58, v_3), (59, v_26)] Hn := by
     intro b_3064 Zn Hn hO
     refine Eq.mpr (hG _ _ _) (hd_more ?_ ?_)
     ·obtain ⟨Z_10117, _, hO⟩ := hO.freezeN (i := 2) rfl
      refine hd_h (h_call call41 (evs_cons rfl (evs_cons rfl (evs_cons rfl evs_nil))) (reachP_spec (a0 := t.States) (a1 := t.Starts) (a2 := xon) hs_9063 hO (Rd.of_fz (i := 6) rfl) (Fz.of (i := 2) rfl))) (by rintro v_10118 H_10119 ⟨Z_10120, _, _, rfl, hO⟩; exact ⟨_, (Own.sel (Ls := [_, _, _, _, _, _, _, _, _]) (L := L) [4, 5, 6, 7, 8] rfl hO)⟩) rfl ?_
      rintro v_10118 H_10119 ⟨Z_10120, _, _, rfl, hO⟩
      exact hd_sub _ (a_c 1 rfl (a_c 3 rfl (a_c 4 rfl (a_c 7 rfl (a_c 16 rfl (a_c 17 rfl (a_c 18 rfl (a_c 19 rfl (a_c 49 rfl (a_c 50 rfl (a_c 51 rfl (a_c 52 rfl (a_c 53 rfl (a_c 54 rfl (a_c 55 rfl (a_c 56 rfl (a_c 57 rfl (a_c 58 rfl (a_c 59 rfl a_n))))))))))))))))))) (Eq.mp (hG usefulP_8_0_5 _ _) (husefulP_8_0_5 v_10118 b_3064 _ _ (Own.sel (Ls := [_, _, _, _, _, _, _, _, _]) (L := L) [1, 0, 2, 3, 4, 5, 6, 7, 8] rfl hO)))
     refine hd_last (hd_h (o_alloc (cs := [.slice none 0 0]) hO zeroValue48 rfl) (by rintro _ H_10122 ⟨b_10123, rfl, hO⟩; exact ⟨_, (Own.sel (Ls := [_, _, _, _, _, _, _, _, _]) (L := L) [4, 5, 6, 7, 8] rfl hO)⟩) rfl ?_)
     rintro _ H_10122 ⟨b_10123, rfl, hO⟩
     obtain ⟨Z_10124, _, hO⟩ := hO.freezeN (i := 3) rfl
     refine hd_h (h_call call41 (evs_cons rfl (evs_cons rfl (evs_cons rfl evs_nil))) (reachP_spec (a0 := t.States) (a1 := t.Starts) (a2 := xon) hs_9063 hO (Rd.of_fz (i := 7) rfl) (Fz.of (i := 3) rfl))) (by rintro v_10125 H_10126 ⟨Z_10127, _, _, rfl, hO⟩; exact ⟨_, (Own.sel (Ls := [_, _, _, _, _, _, _, _, _, _]) (L := L) [5, 6, 7, 8, 9] rfl hO)⟩) rfl ?_
     rintro v_10125 H_10126 ⟨Z_10127, _, _, rfl, hO⟩
     obtain ⟨Z_10129, _, hO⟩ := hO.freezeN (i := 3) rfl
     refine hd_h (h_call call41 (evs_cons rfl (evs_cons rfl (evs_cons rfl evs_nil))) (reachP_spec (a0 := t.States) (a1 := t.Ends) (a2 := back) hs_9064 hO (Rd.of_fz (i := 7) rfl) (Fz.of (i := 3) rfl))) (by rintro v_10130 H_10131 ⟨Z_10132, _, _, rfl, hO⟩; exact ⟨_, (Own.sel (Ls := [_, _, _, _, _, _, _, _, _, _, _]) (L := L) [6, 7, 8, 9, 10] rfl hO)⟩) rfl ?_
     rintro v_10130 H_10131 ⟨Z_10132, _, _, rfl, hO⟩
     refine hd_s (o_store1 hO 3 rfl sizeOf48 rfl rfl rfl (Sl.one (hO.osl 1 rfl))) (by rintro _ H_10134 hO; exact ⟨_, (Own.sel (Ls := [_, _, _, _, _, _, _, _, _, _, _]) (L := L) [6, 7, 8, 9, 10] rfl hO)⟩) ?_
     rintro _ H_10134 hO
     exact hd_sub _ (a_c 1 rfl (a_c 3 rfl (a_c 4 rfl (a_c 7 rfl (a_c 8 rfl (a_c 16 rfl (a_c 17 rfl (a_c 18 rfl (a_c 19 rfl (a_c 49 rfl (a_c 50 rfl (a_c 51 rfl (a_c 52 rfl (a_c 53 rfl (a_c 54 rfl (a_c 55 rfl (a_c 56 rfl (a_c 57 rfl (a_c 58 rfl (a_c 59 rfl (a_c 60 rfl a_n))))))))))))))))))))) (Eq.mp (hG usefulP_8_0_7 _ _) (husefulP_8_0_7 v_10125 v_10130 b_3064 b_10123 _ _ hO))
    have husefulP_8_0_3 : ∀ (b_4064 : Nat) (Zn : Nat → Prop) (Hn : Heap), Own Hn Zn (box b_4064 [.slice none 0 0] 48 :: ownN fInt 67 3 v_26 back :: ownN fInt 67 3 v_23 xon :: box b_21 [.int .i64 t.States, v_1, v_3, v_5] 25 :: fz fGArc.rep v_5 t.Arcs :: fz fGTip.rep v_3 t.Ends :: fz fGTip.rep v_1 t.Starts :: inZ Z :: L) → G usefulP_8_0_3 [(1, ptr b_21 0), (3, v_23), (4, v_26), (8, ptr b_4064 0), (16, v_5), (17, .int .i64 (t.Arcs.length : Int)), (18, .int .i64 (k : Int)), (19, .bool (zz3 k t)), (49, ptr b_21 0), (50, .int .i64 t.States), (51, ptr b_21 1), (52, v_1), (53, v_23), (55, ptr b_21 0), (56, .int .i64 t.States), (57, ptr b_21 2), (58, v_3), (59, v_26)] Hn := by
     intro b_4064 Zn Hn hO
     refine Eq.mpr (hG _ _ _) (hd_more ?_ ?_)
     ·obtain ⟨Z_10135, _, hO⟩ := hO.freezeN (i := 2) rfl
      refine hd_h (h_call call41 (evs_cons rfl (evs_cons rfl (evs_cons rfl evs_nil))) (reachP_spec (a0 := t.States) (a1 := t.Starts) (a2 := xon) hs_9063 hO (Rd.of_fz (i := 6) rfl) (Fz.of (i := 2) rfl))) (by rintro v_10136 H_10137 ⟨Z_10138, _, _, rfl, hO⟩; exact ⟨_, (Own.sel (Ls := [_, _, _, _, _, _, _, _, _]) (L := L) [4, 5, 6, 7, 8] rfl hO)⟩) rfl ?_
      rintro v_10136 H_10137 ⟨Z_10138, _, _, rfl, hO⟩
      exact hd_sub _ (a_c 1 rfl (a_c 3 rfl (a_c 4 rfl (a_c 8 rfl (a_c 16 rfl (a_c 17 rfl (a_c 18 rfl (a_c 19 rfl (a_c 49 rfl (a_c 50 rfl (a_c 51 rfl (a_c 52 rfl (a_c 53 rfl (a_c 54 rfl (a_c 55 rfl (a_c 56 rfl (a_c 57 rfl (a_c 58 rfl (a_c 59 rfl a_n))))))))))))))))))) (Eq.mp (hG usefulP_8_0_6 _ _) (husefulP_8_0_6 v_10136 b_4064 _ _ (Own.sel (Ls := [_, _, _, _, _, _, _, _, _]) (L := L) [1, 0, 2, 3, 4, 5, 6, 7, 8] rfl hO)))
     refine hd_last (hd_h (o_alloc (cs := [.slice none 0 0]) hO zeroValue48 rfl) (by rintro _ H_10140 ⟨b_10141, rfl, hO⟩; exact ⟨_, (Own.sel (Ls := [_, _, _, _, _, _, _, _, _]) (L := L) [4, 5, 6, 7, 8] rfl hO)⟩) rfl ?_)
     rintro _ H_10140 ⟨b_10141, rfl, hO⟩
     obtain ⟨Z_10142, _, hO⟩ := hO.freezeN (i := 3) rfl
     refine hd_h (h_call call41 (evs_cons rfl (evs_cons rfl (evs_cons rfl evs_nil))) (reachP_spec (a0 := t.States) (a1 := t.Starts) (a2 := xon) hs_9063 hO (Rd.of_fz (i := 7) rfl) (Fz.of (i := 3) rfl))) (by rintro v_10143 H_10144 ⟨Z_10145, _, _, rfl, hO⟩; exact ⟨_, (Own.sel (Ls := [_, _, _, _, _, _, _, _, _, _]) (L := L) [5, 6, 7, 8, 9] rfl hO)⟩) rfl ?_
     rintro v_10143 H_10144 ⟨Z_10145, _, _, rfl, hO⟩
     obtain ⟨Z_10147, _, hO⟩ := hO.freezeN (i := 3) rfl
     refine hd_h (h_call call41 (evs_cons rfl (evs_cons rfl (evs_cons rfl evs_nil))) (reachP_spec (a0 := t.States) (a1 := t.Ends) (a2 := back) hs_9064 hO (Rd.of_fz (i := 7) rfl) (Fz.of (i := 3) rfl))) (by rintro v_10148 H_10149 ⟨Z_10150, _, _, rfl, hO⟩; exact ⟨_, (Own.sel (Ls := [_, _, _, _, _, _, _, _, _, _, _]) (L := L) [6, 7, 8, 9, 10] rfl hO)⟩) rfl ?_
     rintro v_10148 H_10149 ⟨Z_10150, _, _, rfl, hO⟩
     refine hd_s (o_store1 hO 2 rfl sizeOf48 rfl rfl rfl (Sl.one (hO.osl 1 rfl))) (by rintro _ H_10152 hO; exact ⟨_, (Own.sel (Ls := [_, _, _, _, _, _, _, _, _, _, _]) (L := L) [6, 7, 8, 9, 10] rfl hO)⟩) ?_
     rintro _ H_10152 hO
     exact hd_sub _ (a_c 1 rfl (a_c 3 rfl (a_c 4 rfl (a_c 7 rfl (a_c 8 rfl (a_c 16 rfl (a_c 17 rfl (a_c 18 rfl (a_c 19 rfl (a_c 49 rfl (a_c 50 rfl (a_c 51 rfl (a_c 52 rfl (a_c 53 rfl (a_c 54 rfl (a_c 55 rfl (a_c 56 rfl (a_c 57 rfl (a_c 58 rfl (a_c 59 rfl (a_c 60 rfl a_n))))))))))))))))))))) (Eq.mp (hG usefulP_8_0_7 _ _) (husefulP_8_0_7 v_10143 v_10148 b_10141 b_4064 _ _ (Own.sel (Ls := [_, _, _, _, _, _, _, _, _, _, _]) (L := L) [0, 1, 3, 2, 4, 5, 6, 7, 8, 9, 10] rfl hO)))
    have husefulP_8_0_0 : ∀ (Zn : Nat → Prop) (Hn : Heap), Own Hn Zn (ownN fInt 67 3 v_26 back :: ownN fInt 67 3 v_23 xon :: box b_21 [.int .i64 t.States, v_1, v_3, v_5] 25 :: fz fGArc.rep v_5 t.Arcs :: fz fGTip.rep v_3 t.Ends :: fz fGTip.rep v_1 t.Starts :: inZ Z :: L) → G usefulP_8_0_0 [(1, ptr b_21 0), (3, v_23), (4, v_26), (16, v_5), (17, .int .i64 (t.Arcs.length : Int)), (18, .int .i64 (k : Int)), (19, .bool (zz3 k t)), (49, ptr b_21 0), (50, .int .i64 t.States), (51, ptr b_21 1), (52, v_1), (53, v_23), (55, ptr b_21 0), (56, .int .i64 t.States), (57, ptr b_21 2), (58, v_3), (59, v_26)] Hn := by
     intro Zn Hn hO
     refine Eq.mpr (hG _ _ _) (hd_more ?_ ?_)
     ·obtain ⟨Z_10153, _, hO⟩ := hO.freezeN (i := 1) rfl
      refine hd_h (h_call call41 (evs_cons rfl (evs_cons rfl (evs_cons rfl evs_nil))) (reachP_spec (a0 := t.States) (a1 := t.Starts) (a2 := xon) hs_9063 hO (Rd.of_fz (i := 5) rfl) (Fz.of (i := 1) rfl))) (by rintro v_10154 H_10155 ⟨Z_10156, _, _, rfl, hO⟩; exact ⟨_, (Own.sel (Ls := [_, _, _, _, _, _, _, _]) (L := L) [3, 4, 5, 6, 7] rfl hO)⟩) rfl ?_
      rintro v_10154 H_10155 ⟨Z_10156, _, _, rfl, hO⟩
      exact hd_sub _ (a_c 1 rfl (a_c 3 rfl (a_c 4 rfl (a_c 16 rfl (a_c 17 rfl (a_c 18 rfl (a_c 19 rfl (a_c 49 rfl (a_c 50 rfl (a_c 51 rfl (a_c 52 rfl (a_c 53 rfl (a_c 54 rfl (a_c 55 rfl (a_c 56 rfl (a_c 57 rfl (a_c 58 rfl (a_c 59 rfl a_n)))))))))))))))))) (Eq.mp (hG usefulP_8_0_1 _ _) (husefulP_8_0_1 v_10154 _ _ hO))
     refine hd_more ?_ ?_
     ·refine hd_h (o_alloc (cs := [.slice none 0 0]) hO zeroValue48 rfl) (by rintro _ H_10158 ⟨b_10159, rfl, hO⟩; exact ⟨_, (Own.sel (Ls := [_, _, _, _, _, _, _, _]) (L := L) [3, 4, 5, 6, 7] rfl hO)⟩) rfl ?_
      rintro _ H_10158 ⟨b_10159, rfl, hO⟩
      exact hd_sub _ (a_c 1 rfl (a_c 3 rfl (a_c 4 rfl (a_c 7 rfl (a_c 16 rfl (a_c 17 rfl (a_c 18 rfl (a_c 19 rfl (a_c 49 rfl (a_c 50 rfl (a_c 51 rfl (a_c 52 rfl (a_c 53 rfl (a_c 55 rfl (a_c 56 rfl (a_c 57 rfl (a_c 58 rfl (a_c 59 rfl a_n)))))))))))))))))) (Eq.mp (hG usefulP_8_0_2 _ _) (husefulP_8_0_2 b_10159 _ _ hO))
     refine hd_last (hd_h (o_alloc (cs := [.slice none 0 0]) hO zeroValue48 rfl) (by rintro _ H_10160 ⟨b_10161, rfl, hO⟩; exact ⟨_, (Own.sel (Ls := [_, _, _, _, _, _, _, _]) (L := L) [3, 4, 5, 6, 7] rfl hO)⟩) rfl ?_)
     rintro _ H_10160 ⟨b_10161, rfl, hO⟩
     exact hd_sub _ (a_c 1 rfl (a_c 3 rfl (a_c 4 rfl (a_c 8 rfl (a_c 16 rfl (a_c 17 rfl (a_c 18 rfl (a_c 19 rfl (a_c 49 rfl (a_c 50 rfl (a_c 51 rfl (a_c 52 rfl (a_c 53 rfl (a_c 55 rfl (a_c 56 rfl (a_c 57 rfl (a_c 58 rfl (a_c 59 rfl a_n)))))))))))))))))) (Eq.mp (hG usefulP_8_0_3 _ _) (husefulP_8_0_3 b_10161 _ _ hO))
    refine Eq.mpr (hG _ _ _) (hd_v rfl (fun _ _ => (v_fieldA underlying25 rfl sizeOf3 rfl)) rfl (hd_v rfl (fun H' hS => by obtain ⟨Z', hO⟩ := hS; exact (v_load1 isAgg3 rfl (Blk.cell (hO.box 0 rfl) rfl))) rfl (hd_v rfl (fun _ _ => (v_fieldA underlying25 rfl sizeOf22 rfl)) rfl (hd_v rfl (fun H' hS => by obtain ⟨Z', hO⟩ := hS; exact (v_load1 isAgg22 rfl (Blk.cell (hO.box 0 rfl) rfl))) rfl (hd_v rfl (fun _ _ => (v_move rfl)) rfl (hd_v rfl (fun _ _ => (v_fieldA underlying25 rfl sizeOf3 rfl)) rfl (hd_v rfl (fun H' hS => by obtain ⟨Z', hO⟩ := hS; exact (v_load1 isAgg3 rfl (Blk.cell (hO.box 0 rfl) rfl))) rfl (hd_v rfl (fun _ _ => (v_fieldA underlying25 rfl sizeOf22 rfl)) rfl (hd_v rfl (fun H' hS => by obtain ⟨Z', hO⟩ := hS; exact (v_load1 isAgg22 rfl (Blk.cell (hO.box 0 rfl) rfl))) rfl (hd_v rfl (fun _ _ => (v_move rfl)) rfl ?_))))))))))
    exact hd_sub _ (a_c 1 rfl (a_c 3 rfl (a_c 4 rfl (a_c 16 rfl (a_c 17 rfl (a_c 18 rfl (a_c 19 rfl (a_c 49 rfl (a_c 50 rfl (a_c 51 rfl (a_c 52 rfl (a_c 53 rfl (a_c 55 rfl (a_c 56 rfl (a_c 57 rfl (a_c 58 rfl (a_c 59 rfl a_n))))))))))))))))) (Eq.mp (hG usefulP_8_0_0 _ _) (husefulP_8_0_0 _ _ hO))
   ·rintro _ H_10162 ⟨v_8067, v_8073, b_3064, b_8064, Z_10163, hai, hO⟩
    refine thenQ_n (hw_sub _ hai (hw_seq (hw_region (hl_v (v_makeFunc (us := []) (vs := [_, _, _]) rfl rfl) rfl (hl_v (v_assign rfl) rfl (hl_nil (thenQ_n (hw_ret ?_))))))))
    obtain ⟨Z_10164, _, hO⟩ := hO.freeze (i := 1) rfl
    obtain ⟨Z_10165, _, hO⟩ := hO.freeze (i := 0) rfl
    refine ret_i _ (ra_t rfl ra_nil) ?_
    exact ⟨_, (t, (reachL t.States t.Starts xon), (reachL t.States t.Ends back)), v_1, v_3, v_5, v_8067, v_8073, b_21, b_3064, b_8064, (hO.inz 10 rfl), h, rfl, (Own.sel (Ls := [_, _, _, _, _, _, _, _, _, _, _]) (L := L) [6, 3, 2, 9, 8, 7, 1, 0] rfl hO)⟩
theorem usefulP_spec {a0 : GFst} {v_1 : Value} {v_3 : Value} {v_5 : Value} {L : List As} (hp : fRight a0 = true) {H : Heap} {Z : Nat → Prop} (hO : Own H Z (L)) (hf_2 : Fz fGTip.rep L v_1 a0.Starts) (hf_4 : Fz fGTip.rep L v_3 a0.Ends) (hf_6 : Fz fGArc.rep L v_5 a0.Arcs) : HC Tryz.prog 25 [.agg [.int .i64 a0.States, v_1, v_3, v_5].toArray] H (fun v H' => ∃ (Z' : Nat → Prop) (v_8 : Value) (v_10 : Value) (v_12 : Value) (v_15 : Value) (v_18 : Value) (b_7 : Nat) (b_14 : Nat) (b_17 : Nat), (∀ b, Z b → Z' b) ∧ v = .func (.func 42) #[] #[ptr b_7 0, ptr b_14 0, ptr b_17 0] ∧ Own H' Z' (box b_7 [.int .i64 ((a0, reachL a0.States a0.Starts (onL a0.States a0.Arcs), reachL a0.States a0.Ends (backL a0.States a0.Arcs))).1.States, v_8, v_10, v_12] 25 :: box b_14 [v_15] 48 :: box b_17 [v_18] 48 :: fz fGTip.rep v_8 ((a0, reachL a0.States a0.Starts (onL a0.States a0.Arcs), reachL a0.States a0.Ends (backL a0.States a0.Arcs))).1.Starts :: fz fGTip.rep v_10 ((a0, reachL a0.States a0.Starts (onL a0.States a0.Arcs), reachL a0.States a0.Ends (backL a0.States a0.Arcs))).1.Ends :: fz fGArc.rep v_12 ((a0, reachL a0.States a0.Starts (onL a0.States a0.Arcs), reachL a0.States a0.Ends (backL a0.States a0.Arcs))).1.Arcs :: fz fBool.rep v_15 ((a0, reachL a0.States a0.Starts (onL a0.States a0.Arcs), reachL a0.States a0.Ends (backL a0.States a0.Arcs))).2.1 :: fz fBool.rep v_18 ((a0, reachL a0.States a0.Starts (onL a0.States a0.Arcs), reachL a0.States a0.Ends (backL a0.States a0.Arcs))).2.2 :: L)) := by
  refine (usefulP_ok (t := a0) (@usefulP_wp a0 hp) hO hf_2 hf_4 hf_6).mono ?_
  rintro v H' ⟨Z', r0, v_8, v_10, v_12, v_15, v_18, b_7, b_14, b_17, hz, hq, hv, hO'⟩
  obtain rfl := hq
  exact ⟨Z', v_8, v_10, v_12, v_15, v_18, b_7, b_14, b_17, hz, hv, hO'⟩
theorem trim1_ok {l : List GTip} {c0 : List (Int × Int)} {v_1 : Value} {b_3 : Nat} {b_4 : Nat} {Q : (List GTip) → Prop} {H : Heap} {Z : Nat → Prop} {L : List As} (h : wp_trim1 l c0 Q) (hO : Own H Z (L)) (hr_2 : Rd fGTip.rep L v_1 l) (ht_5 : Tb L (Value.int .i64) (Value.int .i64) b_4 c0) (hb_6 : Bx L b_3 [.map (some b_4)] 71) : HC Tryz.prog 26 [v_1, ptr b_3 0] H (fun v H' => ∃ (Z' : Nat → Prop) (r0 : List GTip) (v_7 : Value), (∀ b, Z b → Z' b) ∧ Q r0 ∧ v = v_7 ∧ Own H' Z' (own fGTip 50 v_7 r0 :: L)) := by
 replace hO := hO.inZ
 unfold wp_trim1 at h
 refine hc_of_hw (N := 32) (rs := [(.tmp 3)]) Tryz.func26 rfl rfl rfl rfl (hw_seq (hw_region (hl_v (v_assign rfl) rfl (hl_nil (thenQ_n (hw_seq (hw_region (hl_v (v_assign rfl) rfl (hl_nil (thenQ_n (hw_seq (hw_seq (hw_region (hl_v (v_move rfl) rfl ?_))))))))))))))
 have hln_8 := Sl.cap (Rd.sl hr_2 (Own.tails [_] hO))
 refine hl_v (v_lenL rfl underlying22 rfl (Rd.sl hr_2 (Own.tails [_] hO))) rfl (hl_v (v_move rfl) rfl (hl_nil (thenQ_n (hw_block ?_))))
 obtain ⟨I_10, h, hI_12⟩ := h
 replace hO := hO.nil fGTip 50
 refine hw_lp (fun n' g' H' => ∃ (kept : List GTip) (k : Nat) (v_9 : Value) (Z' : Nat → Prop), n' = l.length - k ∧ g' = [(1, ptr b_3 0), (4, v_9), (9, v_1), (10, .int .i64 (l.length : Int)), (11, .int .i64 (k : Int))] ∧ I_10 kept k ∧ k ≤ l.length ∧ Own H' Z' (own fGTip 50 v_9 kept :: inZ Z :: L)) _ _ (a_c 1 rfl (a_c 4 rfl (a_c 9 rfl (a_c 10 rfl (a_c 11 rfl a_n))))) ⟨[], 0, .slice none 0 0, _, rfl, rfl, h, by omega, hO⟩ ?_
 rintro _ _ H_13 ⟨kept, k, v_9, Z_14, rfl, rfl, h, hb_15, hO⟩
 replace h := hI_12 kept k h hb_15
 refine hw_seq (hw_region (hl_v (v_lss rfl rfl) rfl (hl_nil (thenQ_n (hw_seq (hw_cond rfl (fun hc_16 => ?_) (fun hc_16 => ?_)))))))
 ·replace h := ite_t h hc_16
  refine hw_skip (thenQ_n (hw_seq (hw_block (hw_seq (hw_region (hl_v (v_ixL underlying22 sizeOf50 rfl rfl (Rd.sl hr_2 (Own.tails [_, _] hO)) (by exact ⟨Int.natCast_nonneg _, of_decide_eq_true hc_16⟩)) rfl (hl_v (v_loadFl isAgg50 sizeOf50 rfl (Rd.sl hr_2 (Own.tails [_, _] hO)) rfl (by exact ⟨Int.natCast_nonneg _, of_decide_eq_true hc_16⟩)) rfl (hl_h (o_alloc (cs := (fGTip.enc (⟨(0 : Int), ([] : List UInt8)⟩ : GTip))) hO zeroValue50 rfl) rfl ?_))))))))
  rintro _ H_17 ⟨b_18, rfl, hO⟩
  refine hl_s (o_storeA (us := (fGTip.enc (l.getD k default))) hO 0 rfl sizeOf50 rfl rfl rfl rfl (by intro u hu; exact (fGTip).one _ u hu)) ?_
  rintro _ H_19 hO
  refine hl_nil (thenQ_n (hw_seq (hw_region (hl_v (v_load1 isAgg71 rfl (Blk.cell (hb_6 _ _ (Own.tails [_, _, _] hO)) rfl)) rfl (hl_v (v_fieldA underlying50 rfl sizeOf3 rfl) rfl (hl_v (v_load1 isAgg3 rfl (Blk.cell (hO.box 0 rfl) rfl)) rfl (hl_v (v_lookup2 (d := (0 : Int)) (keyInt underlying3) rfl underlying71 zeroValue3 rfl rfl (ht_5 _ _ (Own.tails [_, _, _] hO))) rfl (hl_v (v_move rfl) rfl (hl_v (v_extract rfl rfl) rfl (hl_v (v_extract rfl rfl) rfl (hl_v (v_assign rfl) rfl (hl_v (v_assign rfl) rfl (hl_nil (thenQ_n (hw_sub _ (a_c 1 rfl (a_c 4 rfl (a_c 6 rfl (a_c 7 rfl (a_c 8 rfl (a_c 9 rfl (a_c 10 rfl (a_c 11 rfl a_n)))))))) (hw_seq (hw_region (hl_v (v_move rfl) rfl (hl_nil (thenQ_n (hw_cond rfl (fun hc_20 => ?_) (fun hc_20 => ?_))))))))))))))))))))))
  ·replace h := ite_t h hc_20
   refine hw_region (hl_v (v_move rfl) rfl (hl_v (v_move rfl) rfl (hl_v (v_fieldA underlying50 rfl sizeOf9 rfl) rfl (hl_v (v_load1 isAgg9 rfl (Blk.cell (hO.box 0 rfl) rfl)) rfl (hl_v (v_buildF (cs := (fGTip.enc (⟨((aget c0 ((l.getD k default).State)).getD (0 : Int)), (l.getD k default).Out⟩ : GTip))) (xs := [.tmp 24, .tmp 26]) (is := [0, 1]) rfl (evs_cons rfl (evs_cons rfl evs_nil)) (fun w => by show _ = _; kernel_rfl)) rfl (hl_h (o_lit (g := fGTip) (l := [(⟨((aget c0 ((l.getD k default).State)).getD (0 : Int)), (l.getD k default).Out⟩ : GTip)]) (xs := [.tmp 27]) hO underlying22 sizeOf50 zeroValue50 rfl (evs_cons rfl evs_nil) rfl rfl rfl rfl rfl) rfl ?_))))))
   rintro v_22 H_21 hO
   obtain ⟨hs_25, h⟩ := h
   refine hl_h (o_append (l2 := [(⟨((aget c0 ((l.getD k default).State)).getD (0 : Int)), (l.getD k default).Out⟩ : GTip)]) hO 2 rfl rfl underlying22 type50 rfl rfl rfl rfl rfl rfl rfl (hO.osl 0 rfl) hs_25 (le63 hs_25 rfl)) rfl ?_
   rintro v_24 H_23 hO
   refine hl_v (v_assign rfl) rfl (hl_nil (blockQ_n (thenQ_n (hw_region (hl_v (v_add rfl rfl (by have hq := of_decide_eq_true hc_16; have hm := hln_8; constructor <;> omega)) rfl (hl_v (v_move rfl) rfl (hl_nil (thenQ_n ?_))))))))
   exact ⟨_, _, (a_c 1 rfl (a_c 4 rfl (a_c 9 rfl (a_c 10 rfl (a_c 11 rfl a_n))))), ⟨(kept ++ [(⟨((aget c0 ((l.getD k default).State)).getD (0 : Int)), (l.getD k default).Out⟩ : GTip)]), k + 1, v_24, _, rfl, rfl, h, (by have hq := of_decide_eq_true hc_16; omega), (Own.sel (Ls := [_, _, _, _]) (L := L) [2, 3] rfl hO)⟩, (by have hq := of_decide_eq_true hc_16; omega)⟩
  ·replace h := ite_f h hc_20
   refine hw_skip (blockQ_n (thenQ_n (hw_region (hl_v (v_add rfl rfl (by have hq := of_decide_eq_true hc_16; have hm := hln_8; constructor <;> omega)) rfl (hl_v (v_move rfl) rfl (hl_nil (thenQ_n ?_)))))))
   exact ⟨_, _, (a_c 1 rfl (a_c 4 rfl (a_c 9 rfl (a_c 10 rfl (a_c 11 rfl a_n))))), ⟨kept, k + 1, v_9, _, rfl, rfl, h, (by have hq := of_decide_eq_true hc_16; omega), (Own.sel (Ls := [_, _, _]) (L := L) [1, 2] rfl hO)⟩, (by have hq := of_decide_eq_true hc_16; omega)⟩
 ·replace h := ite_f h hc_16
  refine hw_exit (thenQ_e (thenQ_e (blockQ_hit (thenQ_n (hw_seq (hw_region (hl_v (v_move rfl) rfl (hl_v (v_assign rfl) rfl (hl_nil (thenQ_n (hw_ret (ret_i _ (ra_t rfl ra_nil) ?_))))))))))))
  exact ⟨_, kept, v_9, (hO.inz 1 rfl), h, rfl, (Own.sel (Ls := [_, _]) (L := L) [0] rfl hO)⟩
theorem trim1_spec {a0 : List GTip} {a1 : List (Int × Int)} {v_1 : Value} {b_3 : Nat} {b_4 : Nat} {L : List As} (hp : a0.length ≤ 1000000) {H : Heap} {Z : Nat → Prop} (hO : Own H Z (L)) (hr_2 : Rd fGTip.rep L v_1 a0) (ht_5 : Tb L (Value.int .i64) (Value.int .i64) b_4 a1) (hb_6 : Bx L b_3 [.map (some b_4)] 71) : HC Tryz.prog 26 [v_1, ptr b_3 0] H (fun v H' => ∃ (Z' : Nat → Prop) (v_7 : Value), (∀ b, Z b → Z' b) ∧ v = v_7 ∧ Own H' Z' (own fGTip 50 v_7 ((tipsL a1 a0)) :: L)) := by
  refine (trim1_ok (l := a0) (c0 := a1) (@trim1_wp a0 a1 hp) hO hr_2 ht_5 hb_6).mono ?_
  rintro v H' ⟨Z', r0, v_7, hz, hq, hv, hO'⟩
  obtain rfl := hq
  exact ⟨Z', v_7, hz, hv, hO'⟩
abbrev zz4 (t : GFst) := ((t, reachL t.States t.Starts (onL t.States t.Arcs), reachL t.States t.Ends (backL t.States t.Arcs)).1)
abbrev zz5 (t : GFst) := ((t, reachL t.States t.Starts (onL t.States t.Arcs), reachL t.States t.Ends (backL t.States t.Arcs)).2.1)
theorem trimP_ok {t : GFst} {v_1 : Value} {v_3 : Value} {v_5 : Value} {Q : GFst → Int → Prop} {H : Heap} {Z : Nat → Prop} {L : List As} (h : wp_trimP t Q) (hO : Own H Z (L)) (hf_2 : Fz fGTip.rep L v_1 t.Starts) (hf_4 : Fz fGTip.rep L v_3 t.Ends) (hf_6 : Fz fGArc.rep L v_5 t.Arcs) : HC Tryz.prog 15 [.agg [.int .i64 t.States, v_1, v_3, v_5].toArray] H (fun v H' => ∃ (Z' : Nat → Prop) (r0 : GFst) (r1 : Int) (v_7 : Value) (v_8 : Value) (v_9 : Value), (∀ b, Z b → Z' b) ∧ Q r0 r1 ∧ v = .tuple #[.agg [.int .i64 r0.States, v_7, v_8, v_9].toArray, .int .i64 r1] ∧ Own H' Z' (own fGTip 50 v_7 r0.Starts :: own fGTip 50 v_8 r0.Ends :: own fGArc 39 v_9 r0.Arcs :: L)) := by
 replace hO := hO.inZ
 replace hO := hO.szI (Nat.le_refl H.size)
 replace hO := Fz.items [_, _] hf_2 hO
 replace hO := Fz.items [_, _, _] hf_4 hO
 replace hO := Fz.items [_, _, _, _] hf_6 hO
 unfold wp_trimP at h
 refine hc_of_hw_m (M := 83) (rs := [(.cell 2 25), (.tmp 3)]) Tryz.func15 rfl rfl rfl rfl (hw_seq (hw_region (hl_h (o_box (cs := [.int .i64 t.States, v_1, v_3, v_5]) hO rfl rfl) rfl ?_)))
 rintro _ H_10 ⟨b_11, rfl, hO⟩
 refine hl_h (o_alloc (cs := [.int .i64 (0 : Int), .slice none 0 0, .slice none 0 0, .slice none 0 0]) hO zeroValue25 rfl) rfl ?_
 rintro _ H_12 ⟨b_13, rfl, hO⟩
 refine hl_v (v_assign rfl) rfl (hl_nil (thenQ_n (hw_seq (hw_seq (hw_region (hl_v (v_loadA isAgg25 sizeOf25 rfl (Blk.at0 (hO.box 1 rfl)) rfl) rfl (hl_h (h_call call24 (evs_cons rfl evs_nil) (fCheckP_spec (a0 := t) hO (Fz.of (i := 4) rfl) (Fz.of (i := 3) rfl) (Fz.of (i := 2) rfl))) rfl ?_)))))))
 rintro _ H_14 ⟨Z_15, _, rfl, hO⟩
 refine hl_v (v_assign rfl) rfl (hl_nil (thenQ_n (hw_seq (hw_region (hl_v (v_move rfl) rfl (hl_v (v_neq rfl rfl) rfl (hl_nil (thenQ_n (hw_cond rfl (fun hc_17 => ?_) (fun hc_17 => ?_))))))))))
 ·replace h := ite_t h hc_17
  refine hw_seq (hw_region (hl_v (v_buildF (cs := [.int .i64 (0 : Int), .slice none 0 0, .slice none 0 0, .slice none 0 0]) (xs := []) (is := []) rfl evs_nil (fun w => by show _ = _; kernel_rfl)) rfl (hl_v (v_move rfl) rfl (hl_s (o_storeA (us := [.int .i64 (0 : Int), .slice none 0 0, .slice none 0 0, .slice none 0 0]) hO 0 rfl sizeOf25 rfl rfl rfl rfl (by simp only [List.forall_mem_cons]; exact ⟨rfl, rfl, rfl, rfl, by simp⟩)) ?_))))
  rintro _ H_18 hO
  refine hl_v (v_assign rfl) rfl (hl_nil (thenQ_n (hw_ret (thenQ_r ?_))))
  replace hO := hO.nil fGTip 50
  replace hO := hO.nil fGTip 50
  replace hO := hO.nil fGArc 39
  refine retm_i (fun G' hsh => ?_)
  replace hO := hO.shutB hsh
  refine ⟨_, (ra_c rfl (fun w hw => run_loadVar_at (cs := [.int .i64 (0 : Int), .slice none 0 0, .slice none 0 0, .slice none 0 0]) isAgg25 sizeOf25 (Blk.at0 (hO.box 3 rfl)) rfl w hw) (ra_t rfl ra_nil)), ?_⟩
  exact ⟨_, (⟨(0 : Int), [], [], []⟩ : GFst), fCheck t, .slice none 0 0, .slice none 0 0, .slice none 0 0, (hO.inz 9 rfl), h, rfl, (Own.sel (Ls := [_, _, _, _, _, _, _, _, _, _]) (L := L) [2, 1, 0] rfl hO)⟩
 ·replace h := ite_f h hc_17
  refine hw_skip (thenQ_n (hw_seq (hw_region (hl_h (o_makeMap (ke := (Value.int .i64)) (ve := (Value.int .i64)) hO) rfl ?_))))
  rintro _ H_19 ⟨b_20, rfl, hO⟩
  refine hl_h (o_alloc (cs := [.map none]) hO zeroValue71 rfl) rfl ?_
  rintro _ H_21 ⟨b_22, rfl, hO⟩
  refine hl_s (o_store1 hO 0 rfl sizeOf71 rfl rfl rfl rfl) ?_
  rintro _ H_23 hO
  refine hl_nil (thenQ_n (hw_seq (hw_seq (hw_region (hl_v (v_loadA isAgg25 sizeOf25 rfl (Blk.at0 (hO.box 3 rfl)) rfl) rfl ?_)))))
  obtain ⟨hs_24, h⟩ := h
  refine hl_h (h_call call25 (evs_cons rfl evs_nil) (usefulP_spec (a0 := t) hs_24 hO (Fz.of (i := 6) rfl) (Fz.of (i := 5) rfl) (Fz.of (i := 4) rfl))) rfl ?_
  rintro _ H_38 ⟨Z_39, v_26, v_28, v_30, v_33, v_36, b_25, b_32, b_35, _, rfl, hO⟩
  refine hl_nil (thenQ_n (hw_block ?_))
  replace hO := Sl.item (hO.fsl 3 rfl) hO
  replace hO := Sl.item (hO.fsl 5 rfl) hO
  replace hO := Sl.item (hO.fsl 7 rfl) hO
  replace hO := Sl.item (hO.fsl 9 rfl) hO
  replace hO := Sl.item (hO.fsl 11 rfl) hO
  obtain ⟨hs_41, h⟩ := h
  obtain ⟨I_42, h, hI_43⟩ := h
  refine hw_rangeO (L0 := fz fGTip.rep v_26 ((zz4 t).Starts) :: fz fGTip.rep v_28 ((zz4 t).Ends) :: fz fGArc.rep v_30 ((zz4 t).Arcs) :: box b_25 [.int .i64 ((zz4 t).States), v_26, v_28, v_30] 25 :: fz fBool.rep v_33 (zz5 t) :: box b_32 [v_33] 48 :: fz fBool.rep v_36 ((t, reachL t.States t.Starts (onL t.States t.Arcs), reachL t.States t.Ends (backL t.States t.Arcs)).2.2) :: box b_35 [v_36] 48 :: L) (caps := [ptr b_25 0, ptr b_32 0, ptr b_35 0]) (xs := (usefulL (zz4 t).States (zz5 t) ((t, reachL t.States t.Starts (onL t.States t.Arcs), reachL t.States t.Ends (backL t.States t.Arcs)).2.2))) (enc := (fun x => [.int .i64 x])) (fun k => exs (fun Ls => ∃ (number : List (Int × Int)) , I_42 number k ∧ Ls = [box b_22 [.map (some b_20)] 71, tbl (Value.int .i64) (Value.int .i64) b_20 number, box b_13 [.int .i64 (0 : Int), .slice none 0 0, .slice none 0 0, .slice none 0 0] 25, box b_11 [.int .i64 t.States, v_1, v_3, v_5] 25, fz fGArc.rep v_5 t.Arcs, fz fGTip.rep v_3 t.Ends, fz fGTip.rep v_1 t.Starts, szA H.size, inZ Z])) (fun _ => ffA) rfl call42 (useful1_spec (a0 := (zz4 t)) (a1 := (t, reachL t.States t.Starts (onL t.States t.Arcs), reachL t.States t.Ends (backL t.States t.Arcs)).2.1) (a2 := (t, reachL t.States t.Starts (onL t.States t.Arcs), reachL t.States t.Ends (backL t.States t.Arcs)).2.2) (L := fz fGTip.rep v_26 ((zz4 t).Starts) :: fz fGTip.rep v_28 ((zz4 t).Ends) :: fz fGArc.rep v_30 ((zz4 t).Arcs) :: box b_25 [.int .i64 ((zz4 t).States), v_26, v_28, v_30] 25 :: fz fBool.rep v_33 (zz5 t) :: box b_32 [v_33] 48 :: fz fBool.rep v_36 ((t, reachL t.States t.Starts (onL t.States t.Arcs), reachL t.States t.Ends (backL t.States t.Arcs)).2.2) :: box b_35 [v_36] 48 :: L) hs_41 (Fz.of (i := 0) rfl) (Fz.of (i := 1) rfl) (Fz.of (i := 2) rfl) (Bx.of (i := 3) rfl) (Fz.of (i := 4) rfl) (Bx.of (i := 5) rfl) (Fz.of (i := 6) rfl) (Bx.of (i := 7) rfl)) rfl (fun _ => rfl) (hO.szO 20 rfl) (Own.cls (Ls := [box b_22 [.map (some b_20)] 71, tbl (Value.int .i64) (Value.int .i64) b_20 [], box b_13 [.int .i64 (0 : Int), .slice none 0 0, .slice none 0 0, .slice none 0 0] 25, box b_11 [.int .i64 t.States, v_1, v_3, v_5] 25, fz fGArc.rep v_5 t.Arcs, fz fGTip.rep v_3 t.Ends, fz fGTip.rep v_1 t.Starts, szA H.size, inZ Z]) (Own.sel (Ls := [_, _, _, _, _, _, _, _, _, _, _, _, _, _, _, _, _, _, _, _, _, _]) (L := L) [13, 14, 15, 16, 17, 18, 19, 20, 21, 4, 3, 2, 5, 1, 6, 0, 7] rfl hO) ⟨[], h, rfl⟩) ?_ ?_ (fun c Z G hO => hO.never.elim)
  ·rintro k _ hk_46 rfl L tl_47 Z_45 H_44 hO
   obtain ⟨_, ⟨number, hJ, rfl⟩, hO⟩ := hO.opn
   replace hO : Own H_44 Z_45 (box b_22 [.map (some b_20)] 71 :: tbl (Value.int .i64) (Value.int .i64) b_20 number :: box b_13 [.int .i64 (0 : Int), .slice none 0 0, .slice none 0 0, .slice none 0 0] 25 :: box b_11 [.int .i64 t.States, v_1, v_3, v_5] 25 :: fz fGArc.rep v_5 t.Arcs :: fz fGTip.rep v_3 t.Ends :: fz fGTip.rep v_1 t.Starts :: szA H.size :: inZ Z :: L) := hO
   replace h := ite_t (hI_43 number k hJ (Nat.le_of_lt hk_46)) (decide_eq_true (Int.ofNat_lt.2 hk_46))
   refine hw_region (hl_v (v_assign rfl) rfl (hl_nil (⟨rfl, _, ⟨_, Own.cls (S := fun Ls => Ls = [box b_22 [.map (some b_20)] 71, tbl (Value.int .i64) (Value.int .i64) b_20 number, box b_13 [.int .i64 (0 : Int), .slice none 0 0, .slice none 0 0, .slice none 0 0] 25, box b_11 [.int .i64 t.States, v_1, v_3, v_5] 25, fz fGArc.rep v_5 t.Arcs, fz fGTip.rep v_3 t.Ends, fz fGTip.rep v_1 t.Starts, szA H.size, inZ Z]) (Ls := [box b_22 [.map (some b_20)] 71, tbl (Value.int .i64) (Value.int .i64) b_20 number, box b_13 [.int .i64 (0 : Int), .slice none 0 0, .slice none 0 0, .slice none 0 0] 25, box b_11 [.int .i64 t.States, v_1, v_3, v_5] 25, fz fGArc.rep v_5 t.Arcs, fz fGTip.rep v_3 t.Ends, fz fGTip.rep v_1 t.Starts, szA H.size, inZ Z]) hO rfl⟩, ?_⟩)))
   rintro L tl_50 Z_49 H_48 hO
   obtain ⟨_, rfl, hO⟩ := hO.opn
   replace hO : Own H_48 Z_49 (box b_22 [.map (some b_20)] 71 :: tbl (Value.int .i64) (Value.int .i64) b_20 number :: box b_13 [.int .i64 (0 : Int), .slice none 0 0, .slice none 0 0, .slice none 0 0] 25 :: box b_11 [.int .i64 t.States, v_1, v_3, v_5] 25 :: fz fGArc.rep v_5 t.Arcs :: fz fGTip.rep v_3 t.Ends :: fz fGTip.rep v_1 t.Starts :: szA H.size :: inZ Z :: L) := hO
   replace hf_2 := hf_2.to (Tl.tails [_, _, _, _, _, _, _, _] tl_50)
   replace hf_4 := hf_4.to (Tl.tails [_, _, _, _, _, _, _, _] tl_50)
   replace hf_6 := hf_6.to (Tl.tails [_, _, _, _, _, _, _, _] tl_50)
   refine hw_block (hw_region (hl_v (v_load1 isAgg71 rfl (Blk.cell (hO.box 0 rfl) rfl)) rfl (hl_v (v_move rfl) rfl (hl_v (v_load1 isAgg71 rfl (Blk.cell (hO.box 0 rfl) rfl)) rfl (hl_v (v_lenM rfl underlying71 rfl (hO.tbl 1 rfl)) rfl (hl_s (o_mapUpdate (k := ((usefulL (zz4 t).States (zz5 t) ((t, reachL t.States t.Starts (onL t.States t.Arcs), reachL t.States t.Ends (backL t.States t.Arcs)).2.2)).getD k default)) (v := (number.length : Int)) hO 1 rfl (keyInt underlying3) rfl underlying71 rfl rfl rfl) ?_))))))
   rintro _ H_51 hO
   refine hl_nil (blockQ_n ?_)
   exact ⟨_, Own.cls (Ls := [box b_22 [.map (some b_20)] 71, tbl (Value.int .i64) (Value.int .i64) b_20 (aput number ((usefulL (zz4 t).States (zz5 t) ((t, reachL t.States t.Starts (onL t.States t.Arcs), reachL t.States t.Ends (backL t.States t.Arcs)).2.2)).getD k default) (number.length : Int)), box b_13 [.int .i64 (0 : Int), .slice none 0 0, .slice none 0 0, .slice none 0 0] 25, box b_11 [.int .i64 t.States, v_1, v_3, v_5] 25, fz fGArc.rep v_5 t.Arcs, fz fGTip.rep v_3 t.Ends, fz fGTip.rep v_1 t.Starts, szA H.size, inZ Z]) hO ⟨(aput number ((usefulL (zz4 t).States (zz5 t) ((t, reachL t.States t.Starts (onL t.States t.Arcs), reachL t.States t.Ends (backL t.States t.Arcs)).2.2)).getD k default) (number.length : Int)), h, rfl⟩⟩
  ·rintro Z_53 H_52 hO
   obtain ⟨_, ⟨number, hJ, rfl⟩, hO⟩ := hO.opn
   replace hO : Own H_52 Z_53 (box b_22 [.map (some b_20)] 71 :: tbl (Value.int .i64) (Value.int .i64) b_20 number :: box b_13 [.int .i64 (0 : Int), .slice none 0 0, .slice none 0 0, .slice none 0 0] 25 :: box b_11 [.int .i64 t.States, v_1, v_3, v_5] 25 :: fz fGArc.rep v_5 t.Arcs :: fz fGTip.rep v_3 t.Ends :: fz fGTip.rep v_1 t.Starts :: szA H.size :: inZ Z :: L) := Own.sel (Ls := [box b_22 [.map (some b_20)] 71, tbl (Value.int .i64) (Value.int .i64) b_20 number, box b_13 [.int .i64 (0 : Int), .slice none 0 0, .slice none 0 0, .slice none 0 0] 25, box b_11 [.int .i64 t.States, v_1, v_3, v_5] 25, fz fGArc.rep v_5 t.Arcs, fz fGTip.rep v_3 t.Ends, fz fGTip.rep v_1 t.Starts, szA H.size, inZ Z, fz fGTip.rep v_26 ((zz4 t).Starts), fz fGTip.rep v_28 ((zz4 t).Ends), fz fGArc.rep v_30 ((zz4 t).Arcs), box b_25 [.int .i64 ((zz4 t).States), v_26, v_28, v_30] 25, fz fBool.rep v_33 (zz5 t), box b_32 [v_33] 48, fz fBool.rep v_36 ((t, reachL t.States t.Starts (onL t.States t.Arcs), reachL t.States t.Ends (backL t.States t.Arcs)).2.2), box b_35 [v_36] 48]) (L := L) [0, 1, 2, 3, 4, 5, 6, 7, 8] rfl hO
   replace h := ite_f (hI_43 number _ hJ (Nat.le_refl _)) (decide_eq_false (Int.lt_irrefl _))
   refine blockQ_n (thenQ_n (hw_seq (hw_region (hl_v (v_load1 isAgg71 rfl (Blk.cell (hO.box 0 rfl) rfl)) rfl (hl_v (v_lenM rfl underlying71 rfl (hO.tbl 1 rfl)) rfl (hl_v (v_buildF (cs := [.int .i64 (number.length : Int), .slice none 0 0, .slice none 0 0, .slice none 0 0]) (xs := [.tmp 30]) (is := [0]) rfl (evs_cons rfl evs_nil) (fun w => by show _ = _; kernel_rfl)) rfl (hl_h (o_alloc (cs := [.int .i64 (0 : Int), .slice none 0 0, .slice none 0 0, .slice none 0 0]) hO zeroValue25 rfl) rfl ?_)))))))
   rintro _ H_54 ⟨b_55, rfl, hO⟩
   refine hl_s (o_storeA (us := [.int .i64 (number.length : Int), .slice none 0 0, .slice none 0 0, .slice none 0 0]) hO 0 rfl sizeOf25 rfl rfl rfl rfl (by simp only [List.forall_mem_cons]; exact ⟨rfl, rfl, rfl, rfl, by simp⟩)) ?_
   rintro _ H_56 hO
   refine hl_nil (thenQ_n (hw_sub _ (a_c 1 rfl (a_c 2 rfl (a_c 5 rfl (a_c 7 rfl a_n)))) (hw_seq (hw_region (hl_v (v_makeFunc (us := []) (vs := [_]) rfl rfl) rfl (hl_v (v_assign rfl) rfl (hl_nil (thenQ_n (hw_seq (hw_held2 10 (fun H' => ∃ Z' : Nat → Prop, Own H' Z' (box b_22 [.map (some b_20)] 71 :: tbl (Value.int .i64) (Value.int .i64) b_20 number :: box b_13 [.int .i64 (0 : Int), .slice none 0 0, .slice none 0 0, .slice none 0 0] 25 :: box b_11 [.int .i64 t.States, v_1, v_3, v_5] 25 :: fz fGArc.rep v_5 t.Arcs :: fz fGTip.rep v_3 t.Ends :: fz fGTip.rep v_1 t.Starts :: szA H.size :: inZ Z :: L)) (.step 0 false (.step 1 false (.step 2 false (.step 4 false (.step 5 false (.step 6 false (.step 3 true (.step 8 false (.step 7 true (.step 9 true .done)))))))))) (.step 10 true (.step 11 true .done)) Tryz.mixed (by kernel_rfl) ⟨_, (Own.sel (Ls := [_, _, _, _, _, _, _, _, _, _]) (L := L) [1, 2, 3, 4, 5, 6, 7, 8, 9] rfl hO)⟩ (hd_v rfl (fun _ _ => (v_move rfl)) rfl (hd_v rfl (fun _ _ => (v_fieldA underlying25 rfl sizeOf22 rfl)) rfl (hd_v rfl (fun H' hS => by obtain ⟨Z', hO⟩ := hS; exact (v_load1 isAgg22 rfl (Blk.cell (hO.box 3 rfl) rfl))) rfl ?_)))))))))))))
   refine hd_v rfl (fun _ _ => (v_move rfl)) rfl (hd_v rfl (fun _ _ => (v_fieldA underlying25 rfl sizeOf22 rfl)) rfl (hd_v rfl (fun H' hS => by obtain ⟨Z', hO⟩ := hS; exact (v_load1 isAgg22 rfl (Blk.cell (hO.box 3 rfl) rfl))) rfl ?_))
   obtain ⟨hs_57, h⟩ := h
   refine hd_h (h_callv (fs := []) (cs := [ptr b_22 0]) call26 rfl (evs_cons rfl evs_nil) (trim1_spec (a0 := t.Starts) (a1 := number) hs_57 hO (Rd.of_fz (i := 7) rfl) (Tb.of (i := 2) rfl) (Bx.of (i := 1) rfl))) (by rintro v_58 H_59 ⟨Z_60, _, _, rfl, hO⟩; exact ⟨_, (Own.sel (Ls := [_, _, _, _, _, _, _, _, _, _, _]) (L := L) [2, 3, 4, 5, 6, 7, 8, 9, 10] rfl hO)⟩) rfl ?_
   rintro v_58 H_59 ⟨Z_60, _, _, rfl, hO⟩
   refine hd_v rfl (fun _ _ => (v_fieldA underlying25 rfl sizeOf22 rfl)) rfl ?_
   obtain ⟨hs_62, h⟩ := h
   refine hd_h (h_callv (fs := []) (cs := [ptr b_22 0]) call26 rfl (evs_cons rfl evs_nil) (trim1_spec (a0 := t.Ends) (a1 := number) hs_62 hO (Rd.of_fz (i := 7) rfl) (Tb.of (i := 3) rfl) (Bx.of (i := 2) rfl))) (by rintro v_63 H_64 ⟨Z_65, _, _, rfl, hO⟩; exact ⟨_, (Own.sel (Ls := [_, _, _, _, _, _, _, _, _, _, _, _]) (L := L) [3, 4, 5, 6, 7, 8, 9, 10, 11] rfl hO)⟩) rfl ?_
   rintro v_63 H_64 ⟨Z_65, _, _, rfl, hO⟩
   refine hd_s (o_store1 hO 2 rfl sizeOf22 rfl rfl rfl (Sl.one (hO.osl 1 rfl))) (by rintro _ H_67 hO; exact ⟨_, (Own.sel (Ls := [_, _, _, _, _, _, _, _, _, _, _, _]) (L := L) [3, 4, 5, 6, 7, 8, 9, 10, 11] rfl hO)⟩) ?_
   rintro _ H_67 hO
   refine hd_nil (hd_h (OpV.toH (v_fieldA underlying25 rfl sizeOf22 rfl)) (fun _ _ hR => trivial) rfl ?_)
   rintro vv HH ⟨hvv, hHH⟩
   obtain rfl := hvv.symm
   obtain rfl := hHH.symm
   refine hd_s (o_store1 hO 2 rfl sizeOf22 rfl rfl rfl (Sl.one (hO.osl 0 rfl))) (fun _ _ _ => trivial) ?_
   rintro _ H_68 hO
   refine hd_nil (thenQ_n (hw_seq (hw_seq (hw_region (hl_v (v_fieldA underlying25 rfl sizeOf23 rfl) rfl (hl_v (v_load1 isAgg23 rfl (Blk.cell (hO.box 6 rfl) rfl)) rfl ?_))))))
   have hln_69 := Sl.cap (hO.fsl 7 rfl)
   refine hl_v (v_lenL rfl underlying23 rfl (hO.fsl 7 rfl)) rfl (hl_v (v_move rfl) rfl (hl_nil (thenQ_n (hw_block ?_))))
   obtain ⟨I_73, h, hI_75⟩ := h
   replace hO := hO.nil fGArc 39
   refine hw_lp (fun n' g' H' => ∃ (out : GFst) (k2 : Nat) (v_70 : Value) (v_71 : Value) (v_72 : Value) (Z' : Nat → Prop), n' = t.Arcs.length - k2 ∧ g' = [(2, ptr b_13 0), (5, ptr b_22 0), (7, ptr b_55 0), (44, v_5), (45, .int .i64 (t.Arcs.length : Int)), (46, .int .i64 (k2 : Int))] ∧ I_73 out k2 ∧ k2 ≤ t.Arcs.length ∧ Own H' Z' (own fGArc 39 v_72 out.Arcs :: own fGTip 50 v_71 out.Ends :: own fGTip 50 v_70 out.Starts :: box b_55 [.int .i64 out.States, v_70, v_71, v_72] 25 :: box b_22 [.map (some b_20)] 71 :: tbl (Value.int .i64) (Value.int .i64) b_20 number :: box b_13 [.int .i64 (0 : Int), .slice none 0 0, .slice none 0 0, .slice none 0 0] 25 :: fz fGArc.rep v_5 t.Arcs :: szA H.size :: inZ Z :: L)) _ _ (a_c 2 rfl (a_c 5 rfl (a_c 7 rfl (a_c 44 rfl (a_c 45 rfl (a_c 46 rfl a_n)))))) ⟨(⟨(number.length : Int), (tipsL number t.Starts), (tipsL number t.Ends), []⟩ : GFst), 0, v_58, v_63, .slice none 0 0, _, rfl, rfl, h, by omega, (Own.sel (Ls := [_, _, _, _, _, _, _, _, _, _, _, _, _]) (L := L) [0, 1, 2, 3, 4, 5, 6, 8, 11, 12] rfl hO)⟩ ?_
   rintro _ _ H_76 ⟨out, k2, v_70, v_71, v_72, Z_77, rfl, rfl, h, hb_78, hO⟩
   replace h := hI_75 out k2 h hb_78
   refine hw_seq (hw_region (hl_v (v_lss rfl rfl) rfl (hl_nil (thenQ_n (hw_seq (hw_cond rfl (fun hc_79 => ?_) (fun hc_79 => ?_)))))))
   ·replace h := ite_t h hc_79
    refine hw_skip (thenQ_n (hw_seq (hw_block (hw_seq (hw_region (hl_v (v_ixL underlying23 sizeOf39 rfl rfl (hO.fsl 7 rfl) (by exact ⟨Int.natCast_nonneg _, of_decide_eq_true hc_79⟩)) rfl (hl_v (v_loadFl isAgg39 sizeOf39 rfl (hO.fsl 7 rfl) rfl (by exact ⟨Int.natCast_nonneg _, of_decide_eq_true hc_79⟩)) rfl (hl_h (o_alloc (cs := (fGArc.enc (⟨(0 : Int), (0 : Int), BSet.zero, ([] : List UInt8), false⟩ : GArc))) hO zeroValue39 rfl) rfl ?_))))))))
    rintro _ H_80 ⟨b_81, rfl, hO⟩
    refine hl_s (o_storeA (us := (fGArc.enc (t.Arcs.getD k2 default))) hO 0 rfl sizeOf39 rfl rfl rfl rfl (by intro u hu; exact (fGArc).one _ u hu)) ?_
    rintro _ H_82 hO
    refine hl_nil (thenQ_n (hw_seq (hw_region (hl_v (v_load1 isAgg71 rfl (Blk.cell (hO.box 5 rfl) rfl)) rfl (hl_v (v_fieldA underlying39 rfl sizeOf3 rfl) rfl (hl_v (v_load1 isAgg3 rfl (Blk.cell (hO.box 0 rfl) rfl)) rfl (hl_v (v_lookup2 (d := (0 : Int)) (keyInt underlying3) rfl underlying71 zeroValue3 rfl rfl (hO.tbl 6 rfl)) rfl (hl_v (v_move rfl) rfl (hl_v (v_extract rfl rfl) rfl (hl_v (v_extract rfl rfl) rfl (hl_v (v_assign rfl) rfl (hl_v (v_assign rfl) rfl (hl_nil (thenQ_n (hw_sub _ (a_c 2 rfl (a_c 5 rfl (a_c 7 rfl (a_c 10 rfl (a_c 11 rfl (a_c 12 rfl (a_c 44 rfl (a_c 45 rfl (a_c 46 rfl a_n))))))))) (hw_seq (hw_region (hl_v (v_load1 isAgg71 rfl (Blk.cell (hO.box 5 rfl) rfl)) rfl (hl_v (v_fieldA underlying39 rfl sizeOf3 rfl) rfl (hl_v (v_load1 isAgg3 rfl (Blk.cell (hO.box 0 rfl) rfl)) rfl (hl_v (v_lookup2 (d := (0 : Int)) (keyInt underlying3) rfl underlying71 zeroValue3 rfl rfl (hO.tbl 6 rfl)) rfl (hl_v (v_move rfl) rfl (hl_v (v_extract rfl rfl) rfl (hl_v (v_extract rfl rfl) rfl (hl_v (v_assign rfl) rfl (hl_v (v_assign rfl) rfl (hl_nil (thenQ_n (hw_sub _ (a_c 2 rfl (a_c 5 rfl (a_c 7 rfl (a_c 10 rfl (a_c 11 rfl (a_c 12 rfl (a_c 13 rfl (a_c 14 rfl (a_c 44 rfl (a_c 45 rfl (a_c 46 rfl a_n))))))))))) (hw_seq (hw_region (hl_v (v_move rfl) rfl (hl_v (v_move rfl) rfl (hl_g rfl rfl (fun hg => (v_move rfl)) rfl (hl_v (v_and rfl rfl) rfl (hl_nil (thenQ_n (hw_sub _ (a_c 2 rfl (a_c 5 rfl (a_c 7 rfl (a_c 10 rfl (a_c 11 rfl (a_c 13 rfl (a_c 44 rfl (a_c 45 rfl (a_c 46 rfl (a_c 67 rfl a_n)))))))))) (hw_cond rfl (fun hc_83 => ?_) (fun hc_83 => ?_))))))))))))))))))))))))))))))))))))))))
    ·replace h := ite_t h hc_83
     refine hw_seq (hw_region (hl_v (v_move rfl) rfl (hl_v (v_move rfl) rfl (hl_v (v_fieldA underlying39 rfl sizeOf3 rfl) rfl (hl_s (o_store1 hO 0 rfl sizeOf3 rfl rfl rfl rfl) ?_)))))
     rintro _ H_84 hO
     refine hl_v (v_fieldA underlying39 rfl sizeOf3 rfl) rfl (hl_s (o_store1 hO 0 rfl sizeOf3 rfl rfl rfl rfl) ?_)
     rintro _ H_85 hO
     refine hl_nil (thenQ_n (hw_region (hl_v (v_fieldA underlying25 rfl sizeOf23 rfl) rfl (hl_v (v_load1 isAgg23 rfl (Blk.cell (hO.box 4 rfl) rfl)) rfl (hl_v (v_loadA isAgg39 sizeOf39 rfl (Blk.at0 (hO.box 0 rfl)) rfl) rfl (hl_h (o_lit (g := fGArc) (l := [{ { (t.Arcs.getD k2 default) with From := ((aget number ((t.Arcs.getD k2 default).From)).getD (0 : Int)) } with To := ((aget number ((t.Arcs.getD k2 default).To)).getD (0 : Int)) }]) (xs := [.tmp 74]) hO underlying23 sizeOf39 zeroValue39 rfl (evs_cons rfl evs_nil) rfl rfl rfl rfl rfl) rfl ?_))))))
     rintro v_87 H_86 hO
     obtain ⟨hs_90, h⟩ := h
     refine hl_h (o_append (l2 := [{ { (t.Arcs.getD k2 default) with From := ((aget number ((t.Arcs.getD k2 default).From)).getD (0 : Int)) } with To := ((aget number ((t.Arcs.getD k2 default).To)).getD (0 : Int)) }]) hO 2 rfl rfl underlying23 type39 rfl rfl rfl rfl rfl rfl rfl (hO.osl 0 rfl) hs_90 (le63 hs_90 rfl)) rfl ?_
     rintro v_89 H_88 hO
     replace hO : Own H_88 Z_77 (own fGArc 39 v_87 [{ { (t.Arcs.getD k2 default) with From := ((aget number ((t.Arcs.getD k2 default).From)).getD (0 : Int)) } with To := ((aget number ((t.Arcs.getD k2 default).To)).getD (0 : Int)) }] :: box b_81 (fGArc.enc ({ { (t.Arcs.getD k2 default) with From := ((aget number ((t.Arcs.getD k2 default).From)).getD (0 : Int)) } with To := ((aget number ((t.Arcs.getD k2 default).To)).getD (0 : Int)) })) 39 :: own fGArc 39 v_89 (out.Arcs ++ [{ { (t.Arcs.getD k2 default) with From := ((aget number ((t.Arcs.getD k2 default).From)).getD (0 : Int)) } with To := ((aget number ((t.Arcs.getD k2 default).To)).getD (0 : Int)) }]) :: own fGTip 50 v_71 out.Ends :: own fGTip 50 v_70 out.Starts :: box b_55 [.int .i64 out.States, v_70, v_71, v_72] 25 :: box b_22 [.map (some b_20)] 71 :: tbl (Value.int .i64) (Value.int .i64) b_20 number :: box b_13 [.int .i64 (0 : Int), .slice none 0 0, .slice none 0 0, .slice none 0 0] 25 :: fz fGArc.rep v_5 t.Arcs :: szA H.size :: inZ Z :: L) := hO
     refine hl_v (v_fieldA underlying25 rfl sizeOf23 rfl) rfl (hl_s (o_store1 hO 5 rfl sizeOf23 rfl rfl rfl (Sl.one (hO.osl 2 rfl))) ?_)
     rintro _ H_91 hO
     refine hl_nil (blockQ_n (thenQ_n (hw_region (hl_v (v_add rfl rfl (by have hq := of_decide_eq_true hc_79; have hm := hln_69; constructor <;> omega)) rfl (hl_v (v_move rfl) rfl (hl_nil (thenQ_n ?_)))))))
     exact ⟨_, _, (a_c 2 rfl (a_c 5 rfl (a_c 7 rfl (a_c 44 rfl (a_c 45 rfl (a_c 46 rfl a_n)))))), ⟨(⟨out.States, out.Starts, out.Ends, (out.Arcs ++ [{ { (t.Arcs.getD k2 default) with From := ((aget number ((t.Arcs.getD k2 default).From)).getD (0 : Int)) } with To := ((aget number ((t.Arcs.getD k2 default).To)).getD (0 : Int)) }])⟩ : GFst), k2 + 1, v_70, v_71, v_89, _, rfl, rfl, h, (by have hq := of_decide_eq_true hc_79; omega), (Own.sel (Ls := [_, _, _, _, _, _, _, _, _, _, _, _]) (L := L) [2, 3, 4, 5, 6, 7, 8, 9, 10, 11] rfl hO)⟩, (by have hq := of_decide_eq_true hc_79; omega)⟩
    ·replace h := ite_f h hc_83
     refine hw_skip (blockQ_n (thenQ_n (hw_region (hl_v (v_add rfl rfl (by have hq := of_decide_eq_true hc_79; have hm := hln_69; constructor <;> omega)) rfl (hl_v (v_move rfl) rfl (hl_nil (thenQ_n ?_)))))))
     exact ⟨_, _, (a_c 2 rfl (a_c 5 rfl (a_c 7 rfl (a_c 44 rfl (a_c 45 rfl (a_c 46 rfl a_n)))))), ⟨out, k2 + 1, v_70, v_71, v_72, _, rfl, rfl, h, (by have hq := of_decide_eq_true hc_79; omega), (Own.sel (Ls := [_, _, _, _, _, _, _, _, _, _, _]) (L := L) [1, 2, 3, 4, 5, 6, 7, 8, 9, 10] rfl hO)⟩, (by have hq := of_decide_eq_true hc_79; omega)⟩
   ·replace h := ite_f h hc_79
    refine hw_exit (thenQ_e (thenQ_e (blockQ_hit (thenQ_n (hw_seq (hw_region (hl_v (v_loadA isAgg25 sizeOf25 rfl (Blk.at0 (hO.box 3 rfl)) rfl) rfl ?_)))))))
    obtain ⟨Z_92, _, hO⟩ := hO.freeze (i := 2) rfl
    obtain ⟨Z_93, _, hO⟩ := hO.freeze (i := 1) rfl
    obtain ⟨Z_94, _, hO⟩ := hO.freeze (i := 0) rfl
    refine hl_h (h_call call27 (evs_cons rfl evs_nil) (fSortP_spec (a0 := out) hO (Fz.of (i := 2) rfl) (Fz.of (i := 1) rfl) (Fz.of (i := 0) rfl))) rfl ?_
    rintro _ H_98 ⟨Z_99, v_95, v_96, v_97, _, rfl, hO⟩
    refine hl_v (v_extract rfl rfl) rfl (hl_v (v_extract rfl rfl) rfl (hl_s (o_storeA (us := [.int .i64 (((fSort out).1).States), v_95, v_96, v_97]) hO 9 rfl sizeOf25 rfl rfl rfl rfl (by simp only [List.forall_mem_cons]; exact ⟨rfl, (Sl.one (hO.osl 0 rfl)), (Sl.one (hO.osl 1 rfl)), (Sl.one (hO.osl 2 rfl)), by simp⟩)) ?_))
    rintro _ H_101 hO
    replace hO : Own H_101 Z_99 (own fGTip 50 v_95 (((fSort out).1).Starts) :: own fGTip 50 v_96 (((fSort out).1).Ends) :: own fGArc 39 v_97 (((fSort out).1).Arcs) :: fz fGArc.rep v_72 out.Arcs :: fz fGTip.rep v_71 out.Ends :: fz fGTip.rep v_70 out.Starts :: box b_55 [.int .i64 out.States, v_70, v_71, v_72] 25 :: box b_22 [.map (some b_20)] 71 :: tbl (Value.int .i64) (Value.int .i64) b_20 number :: box b_13 [.int .i64 (((fSort out).1).States), v_95, v_96, v_97] 25 :: fz fGArc.rep v_5 t.Arcs :: szA H.size :: inZ Z :: L) := hO
    refine hl_v (v_assign rfl) rfl (hl_nil (thenQ_n (hw_ret (retm_i (fun G' hsh => ?_)))))
    replace hO := hO.shutB hsh
    refine ⟨_, (ra_c rfl (fun w hw => run_loadVar_at (cs := [.int .i64 (((fSort out).1).States), v_95, v_96, v_97]) isAgg25 sizeOf25 (Blk.at0 (hO.box 9 rfl)) rfl w hw) (ra_t rfl ra_nil)), ?_⟩
    exact ⟨_, ((fSort out).1), (fSort out).2, v_95, v_96, v_97, (hO.inz 12 rfl), h, rfl, (Own.sel (Ls := [_, _, _, _, _, _, _, _, _, _, _, _, _]) (L := L) [0, 1, 2] rfl hO)⟩
theorem trimP_spec {a0 : GFst} {v_1 : Value} {v_3 : Value} {v_5 : Value} {L : List As} {H : Heap} {Z : Nat → Prop} (hO : Own H Z (L)) (hf_2 : Fz fGTip.rep L v_1 a0.Starts) (hf_4 : Fz fGTip.rep L v_3 a0.Ends) (hf_6 : Fz fGArc.rep L v_5 a0.Arcs) : HC Tryz.prog 15 [.agg [.int .i64 a0.States, v_1, v_3, v_5].toArray] H (fun v H' => ∃ (Z' : Nat → Prop) (v_7 : Value) (v_8 : Value) (v_9 : Value), (∀ b, Z b → Z' b) ∧ v = .tuple #[.agg [.int .i64 ((pTrim a0).1).States, v_7, v_8, v_9].toArray, .int .i64 ((pTrim a0).2)] ∧ Own H' Z' (own fGTip 50 v_7 ((pTrim a0).1).Starts :: own fGTip 50 v_8 ((pTrim a0).1).Ends :: own fGArc 39 v_9 ((pTrim a0).1).Arcs :: L)) := by
  refine (trimP_ok (t := a0) (@trimP_wp a0) hO hf_2 hf_4 hf_6).mono ?_
  rintro v H' ⟨Z', r0, r1, v_7, v_8, v_9, hz, hq, hv, hO'⟩
  obtain ⟨rfl, rfl⟩ := hq
  exact ⟨Z', v_7, v_8, v_9, hz, hv, hO'⟩
end
section
open Go.Proofs
open Tryz
theorem textCommon_ok {a : List UInt8} {b : List UInt8}  {Q : Int → Prop} {H : Heap} {Z : Nat → Prop} {L : List As} (h : wp_textCommon a b Q) (hO : Own H Z (L))  : HC Tryz.prog 73 [str a, str b] H (fun v H' => ∃ (r0 : Int) , Q r0 ∧ v = .int .i64 r0 ∧ H' = H) := by
 unfold wp_textCommon at h
 refine hc_of_hw (N := 28) (rs := [(.tmp 4)]) Tryz.func73 rfl rfl rfl rfl (hw_seq (hw_region (hl_v (v_assign rfl) rfl (hl_nil (thenQ_n (hw_seq (hw_region (hl_v (v_assign rfl) rfl (hl_nil (thenQ_n (hw_seq (hw_block ?_))))))))))))
 obtain ⟨I_1, μ_2, h, hI_3⟩ := h
 refine hw_lp (fun n' g' H' => ∃ (n : Int) (Z' : Nat → Prop), n' = μ_2 n ∧ g' = [(0, str a), (1, str b), (5, .int .i64 n)] ∧ I_1 n ∧ Own H' Z' (L) ∧ H = H') _ _ (a_c 0 rfl (a_c 1 rfl (a_c 5 rfl a_n))) ⟨0, _, rfl, rfl, h, hO, rfl⟩ ?_
 rintro _ _ H_4 ⟨n, Z_5, rfl, rfl, h, hO, rfl⟩
 replace h := hI_3 n h
 refine hw_seq (hw_seq (hw_quiet Tryz.mixed (by kernel_rfl) (hq_v (v_move rfl) rfl (hq_v (v_move rfl) rfl (hq_v (v_lenS rfl underlying9 rfl) rfl (hq_v (v_lss rfl rfl) rfl (hq_v (v_move rfl) rfl (hq_g rfl rfl (fun hg => (v_move rfl)) rfl (hq_g rfl rfl (fun hg => (v_move rfl)) rfl (hq_g rfl rfl (fun hg => (v_lenS rfl underlying9 (gv_ok rfl hg))) rfl (hq_g rfl rfl (fun hg => (v_lss (gv_ok rfl hg) (gv_ok rfl hg))) rfl (hq_v (v_and rfl rfl) rfl (hq_v (v_move rfl) rfl (hq_g rfl rfl (fun hg => (v_move rfl)) rfl (hq_g rfl rfl (fun hg => (v_move rfl)) rfl ?_)))))))))))))))
 obtain ⟨hs_7, h⟩ := h
 refine hq_g rfl rfl (fun hg => (v_idxS underlying9 (gv_ok rfl hg) (gv_ok rfl hg) (hs_7 (gb_bool hg)))) rfl (hq_g rfl rfl (fun hg => (v_move rfl)) rfl (hq_g rfl rfl (fun hg => (v_move rfl)) rfl ?_))
 obtain ⟨hs_8, h⟩ := h
 refine hq_g rfl rfl (fun hg => (v_idxS underlying9 (gv_ok rfl hg) (gv_ok rfl hg) (hs_8 (gb_bool hg)))) rfl (hq_g rfl rfl (fun hg => (v_eql (gv_ok rfl hg) (gv_ok rfl hg))) rfl (hq_v (v_and rfl rfl) rfl (hq_nil (thenQ_n (hw_sub _ (a_c 0 rfl (a_c 1 rfl (a_c 5 rfl (a_c 24 rfl a_n)))) (hw_cond rfl (fun hc_9 => ?_) (fun hc_9 => ?_)))))))
 ·replace h := ite_t h hc_9
  refine hw_skip (thenQ_n (hw_block (hw_region (hl_v (v_move rfl) rfl ?_))))
  obtain ⟨hs_10, h⟩ := h
  refine hl_v (v_add rfl rfl hs_10) rfl (hl_v (v_assign rfl) rfl (hl_nil (blockQ_n (thenQ_n ?_))))
  exact ⟨_, _, (a_c 0 rfl (a_c 1 rfl (a_c 5 rfl a_n))), ⟨(n + 1), _, rfl, rfl, h.1, hO, rfl⟩, h.2⟩
 ·replace h := ite_f h hc_9
  refine hw_exit (thenQ_e (thenQ_e (blockQ_hit (thenQ_n (hw_seq (hw_region (hl_v (v_move rfl) rfl (hl_v (v_assign rfl) rfl (hl_nil (thenQ_n (hw_ret (ret_i _ (ra_t rfl ra_nil) ?_))))))))))))
  exact ⟨n, h, rfl, rfl⟩
theorem textCommon_spec {a0 : List UInt8} {a1 : List UInt8}  {L : List As} (hp : a0.length ≤ 9223372036854775807 ∧ a1.length ≤ 9223372036854775807) {H : Heap} {Z : Nat → Prop} (hO : Own H Z (L))  : HC Tryz.prog 73 [str a0, str a1] H (fun v H' => v = .int .i64 (((lcp a0 a1 : Nat) : Int)) ∧ H' = H) := by
  refine (textCommon_ok (a := a0) (b := a1) (@textCommon_wp a0 a1 hp) hO).mono ?_
  rintro v H' ⟨r0, hq, hv, hH⟩
  obtain rfl := hq
  exact ⟨hv, hH⟩
theorem textLagP_ok {a : List UInt8} {b : List UInt8}  {Q : (List UInt8) → (List UInt8) → Prop} {H : Heap} {Z : Nat → Prop} {L : List As} (h : wp_textLagP a b Q) (hO : Own H Z (L))  : HC Tryz.prog 51 [str a, str b] H (fun v H' => ∃ (r0 : List UInt8) (r1 : List UInt8) , Q r0 r1 ∧ v = .tuple #[str r0, str r1] ∧ H' = H) := by
 unfold wp_textLagP at h
 refine hc_of_hw (N := 16) (rs := [(.tmp 4), (.tmp 5)]) Tryz.func51 rfl rfl rfl rfl (hw_seq (hw_region (hl_v (v_assign rfl) rfl (hl_v (v_assign rfl) rfl (hl_nil (thenQ_n (hw_seq (hw_region (hl_v (v_move rfl) rfl (hl_v (v_move rfl) rfl ?_))))))))))
 obtain ⟨hs_1, h⟩ := h
 refine hl_v (v_call call73 (evs_cons rfl (evs_cons rfl evs_nil)) (textCommon_spec (a0 := a) (a1 := b) hs_1 hO)) rfl (hl_v (v_assign rfl) rfl (hl_nil (thenQ_n (hw_seq (hw_quiet Tryz.mixed (by kernel_rfl) (hq_v (v_move rfl) rfl (hq_v (v_move rfl) rfl ?_)))))))
 obtain ⟨hs_2, h⟩ := h
 refine hq_v (v_sliceSl underlying9 rfl rfl hs_2) rfl (hq_v (v_move rfl) rfl (hq_v (v_move rfl) rfl ?_))
 obtain ⟨hs_3, h⟩ := h
 refine hq_v (v_sliceSl underlying9 rfl rfl hs_3) rfl (hq_v (v_assign rfl) rfl (hq_v (v_assign rfl) rfl (hq_nil (thenQ_n (hw_ret (ret_i _ (ra_t rfl (ra_t rfl ra_nil)) ?_))))))
 exact ⟨(a.drop ((lcp a b : Nat) : Int).toNat), (b.drop ((lcp a b : Nat) : Int).toNat), h, rfl, rfl⟩
theorem textLagP_spec {a0 : List UInt8} {a1 : List UInt8}  {L : List As} (hp : a0.length ≤ 9223372036854775807 ∧ a1.length ≤ 9223372036854775807) {H : Heap} {Z : Nat → Prop} (hO : Own H Z (L))  : HC Tryz.prog 51 [str a0, str a1] H (fun v H' => v = .tuple #[str ((a0.drop (lcp a0 a1))), str ((a1.drop (lcp a0 a1)))] ∧ H' = H) := by
  refine (textLagP_ok (a := a0) (b := a1) (@textLagP_wp a0 a1 hp) hO).mono ?_
  rintro v H' ⟨r0, r1, hq, hv, hH⟩
  obtain ⟨rfl, rfl⟩ := hq
  exact ⟨hv, hH⟩
theorem setBoth_spec {a0 a1 : BSet} {L : List As} {H : Heap} {Z : Nat → Prop} (hO : Own H Z L) : HC Tryz.prog 49 [sv a0, sv a1] H (fun v H' => ∃ (Z' : Nat → Prop), (∀ b, Z b → Z' b) ∧ v = sv (BSet.band a0 a1) ∧ Own H' Z' L) :=
  Both_spec.mono fun v H' ⟨h1, h2⟩ => ⟨Z, fun _ h => h, h1, hO.ext h2⟩
theorem setFirst_spec {a0 : BSet} {L : List As} {H : Heap} {Z : Nat → Prop} (hO : Own H Z L) : HC Tryz.prog 48 [sv a0] H (fun v H' => ∃ (Z' : Nat → Prop), (∀ b, Z b → Z' b) ∧ v = .tuple #[.int .u8 (a0.bytes.getD 0 0).toNat, .bool (decide (a0.mem.length ≠ 0))] ∧ Own H' Z' L) :=
  First_spec.mono fun v H' ⟨h1, h2⟩ => ⟨Z, fun _ h => h, h1, hO.ext h2⟩
end
section
def fTwo {α : Type} (g : Flat α) : Flat (α × α) := ⟨fun p => g.enc p.1 ++ g.enc p.2, g.sz + g.sz, fun p => by rw [List.length_append, g.len, g.len], fun p c h => (List.mem_append.1 h).elim (g.one _ c) (g.one _ c)⟩
section
variable {P : Program} {kt e : TypeId}
theorem run_equal_two (ht : P.underlying kt = some (.array 2 e)) (he : P.underlying e = some (.int .i64)) (hsz : ∀ w, (sizeOf e).run P w = .ok 1 w) (a b : Int × Int) (w : World) :
    (Op.equal kt (aggOf (fTwo fInt) a) (aggOf (fTwo fInt) b)).run P w = .ok (decide (a = b)) w := by
  have h := run_equalIn_ints 9998 ht he hsz [a.1, a.2] [b.1, b.2] rfl rfl w
  have e1 : ([a.1, a.2] == [b.1, b.2]) = decide (a = b) := by
    rw [beq_dec]
    apply decide_eq_decide.2
    obtain ⟨x, y⟩ := a
    obtain ⟨z, u⟩ := b
    simp only [List.cons.injEq, and_true, Prod.mk.injEq]
  rw [e1] at h; exact h
theorem run_check_arr {n : Nat} {em : Bool} {u v : Value} (ht : P.underlying kt = some (.array 2 e)) (hsz : ∀ w, (sizeOf e).run P w = .ok 1 w) (p0 : ∀ w, (part e (#[u, v] : Array Value) 0).run P w = .ok u w) (p1 : ∀ w, (part e (#[u, v] : Array Value) 1).run P w = .ok v w)
    (h0 : ∀ w, (Instr.checkKey em n e u).run P w = .ok () w) (h1 : ∀ w, (Instr.checkKey em n e v).run P w = .ok () w) (w : World) : (Instr.checkKey em (n + 1) kt (.agg #[u, v])).run P w = .ok () w := by
  rw [Instr.checkKey]
  simp only [Sem.run_bind, run_underlying ht, Result.andThen_ok, Std.Legacy.Range.forIn_eq_forIn_range', Std.Legacy.Range.size, Nat.sub_zero, Nat.add_sub_cancel, Nat.div_one]
  simp [List.range'_succ, hsz, p0, p1, h0, h1]
theorem run_check_two (ht : P.underlying kt = some (.array 2 e)) (he : P.underlying e = some (.int .i64)) (hsz : ∀ w, (sizeOf e).run P w = .ok 1 w) (ha : ∀ w, (isAgg e).run P w = .ok false w) (em : Bool) (a : Int × Int) (w : World) :
    (Instr.checkKey em 10000 kt (aggOf (fTwo fInt) a)).run P w = .ok () w := by
  have h1 : ∀ (v : Int) w, (Instr.checkKey em 9999 e (.int .i64 v)).run P w = .ok () w := fun v w => Go.MapKept.run_checkKey he (show Go.MapKept.IsKey (.int .i64) (.int .i64 v) from rfl) em 9998
  exact run_check_arr (n := 9999) (u := .int .i64 a.1) (v := .int .i64 a.2) ht hsz (part1 ha rfl) (part1 ha rfl) (h1 a.1) (h1 a.2) w
/-- two ints as a key -/
def keyTwo (ht : P.underlying kt = some (.array 2 e)) (he : P.underlying e = some (.int .i64)) (hsz : ∀ w, (sizeOf e).run P w = .ok 1 w) (ha : ∀ w, (isAgg e).run P w = .ok false w) : KeyT P (Int × Int) kt :=
  ⟨aggOf (fTwo fInt), .array 2 e, ht, .inr ⟨fun _ _ => rfl, run_equal_two ht he hsz⟩, fun em a w => run_check_two ht he hsz ha em a w, fun a => bits_agg (n := 9999) (by
    intro v hv
    have hv : v ∈ [Value.int .i64 a.1, Value.int .i64 a.2] := hv
    simp only [List.mem_cons, List.not_mem_nil, or_false] at hv
    rcases hv with rfl | rfl <;> exact bits_int _ _)⟩
end
section
variable {P : Program} {N : Sz} {f : Frm} {H : Heap} {t e ty : TypeId} {x y : Operand}
theorem v_buildTwo {z : Value} {k : IntKind} {a b : Int} (ht : P.underlying t = some (.array 2 e)) (hz : ∀ w, (zeroValue t).run P w = .ok z w) (hzc : z.cells.size = 2) (hsz : ∀ w, (sizeOf e).run P w = .ok 1 w) (hx : ev f x = some (.int k a)) (hy : ev f y = some (.int k b)) :
    OpV P N (.build t #[(0, x), (1, y)]) ty f H (.agg #[.int k a, .int k b]) := by
  intro c w hf hH
  simp only [opx, execOp, hf.ev hx, hf.ev hy, List.map_toArray, List.map_cons, List.map_nil]
  refine quiet_pure ?_
  generalize hc : z.cells = zc at hzc
  obtain ⟨l⟩ := zc
  match l, hzc with
  | [z1, z2], _ =>
    simp only [Instr.build, Sem.run_bind, hz, Result.andThen_ok, run_underlying ht, hsz, hc]
    rfl
end
end
section
open Go.Proofs
open Tryz
theorem eqv_82_19 (a b : Gfun_lag) (w : World) : (Op.equalIn 10000 82 (.agg (fGfun_lag.enc a).toArray) (.agg (fGfun_lag.enc b).toArray)).run Tryz.prog w = .ok (decide (a = b)) w := by
  have hF := (show ∀ fs, Tryz.prog.underlying 82 = some (.struct fs) → Tryz.prog.fieldsOf 82 = fs from fun fs h => by unfold Program.fieldsOf; rw [h]) _ underlying82
  have e : decide (a = b) = (decide (a.a = b.a) && (decide (a.b = b.b) && true)) := by
    obtain ⟨a0, a1⟩ := a; obtain ⟨b0, b1⟩ := b
    rw [Bool.eq_iff_iff]; simp [Gfun_lag.mk.injEq]
  rw [e, show (10000 : Nat) = 9999 + 1 from rfl, run_equalIn_struct w 9999 82 _ _ (by rw [hF]; exact underlying82) (by kernel_rfl), hF]
  exact (eqF_cons (by decide) (part1 isAgg9 rfl) (part1 isAgg9 rfl) (eqS underlying9) (eqF_cons (by decide) (part1 isAgg9 rfl) (part1 isAgg9 rfl) (eqS underlying9) eqF_nil)) w
theorem funOut_ok {x : GArc} {b : UInt8}  {Q : (List UInt8) → Prop} {H : Heap} {Z : Nat → Prop} {L : List As} (h : wp_funOut x b Q) (hO : Own H Z (L))  : HC Tryz.prog 50 [.agg (fGArc.enc x).toArray, .int .u8 (b.toNat : Int)] H (fun v H' => ∃ (Z' : Nat → Prop) (r0 : List UInt8) , (∀ b, Z b → Z' b) ∧ Q r0 ∧ v = str r0 ∧ Own H' Z' (L)) := by
 replace hO := hO.inZ
 unfold wp_funOut at h
 refine hc_of_hw (N := 15) (rs := [(.tmp 4)]) Tryz.func50 rfl rfl rfl rfl (hw_seq (hw_region (hl_h (o_box (cs := (fGArc.enc x)) hO rfl rfl) rfl ?_)))
 rintro _ H_1 ⟨b_2, rfl, hO⟩
 refine hl_v (v_assign rfl) rfl (hl_nil (thenQ_n (hw_seq (hw_seq (hw_region (hl_v (v_fieldA underlying39 rfl sizeOf4 rfl) rfl (hl_v (v_load1 isAgg4 rfl (Blk.cell (hO.box 0 rfl) rfl)) rfl (hl_nil (thenQ_n (hw_cond rfl (fun hc_3 => ?_) (fun hc_3 => ?_)))))))))))
 ·replace h := ite_t h hc_3
  refine hw_seq (hw_region (hl_v (v_fieldA underlying39 rfl sizeOf9 rfl) rfl (hl_v (v_load1 isAgg9 rfl (Blk.cell (hO.box 0 rfl) rfl)) rfl (hl_v (v_move rfl) rfl (hl_h (o_lit (g := fByte) (l := [b]) (xs := [.tmp 9]) hO underlying33 sizeOf5 zeroValue5 rfl (evs_cons rfl evs_nil) rfl rfl rfl rfl rfl) rfl ?_)))))
  rintro v_5 H_4 hO
  refine hl_v (v_bytesStr underlying33 underlying5 underlying9 rfl (hO.osl 0 rfl)) rfl ?_
  obtain ⟨hs_6, h⟩ := h
  refine hl_v (v_addS rfl rfl hs_6) rfl (hl_v (v_assign rfl) rfl (hl_nil (thenQ_n (hw_ret (thenQ_r (ret_i _ (ra_t rfl ra_nil) ?_))))))
  exact ⟨_, (x.Out ++ [b]), (hO.inz 2 rfl), h, rfl, (Own.sel (Ls := [_, _, _]) (L := L) [] rfl hO)⟩
 ·replace h := ite_f h hc_3
  refine hw_skip (thenQ_n (hw_seq (hw_region (hl_v (v_fieldA underlying39 rfl sizeOf9 rfl) rfl (hl_v (v_load1 isAgg9 rfl (Blk.cell (hO.box 0 rfl) rfl)) rfl (hl_v (v_assign rfl) rfl (hl_nil (thenQ_n (hw_ret (ret_i _ (ra_t rfl ra_nil) ?_))))))))))
  exact ⟨_, x.Out, (hO.inz 1 rfl), h, rfl, (Own.sel (Ls := [_, _]) (L := L) [] rfl hO)⟩
theorem funOut_spec {a0 : GArc} {a1 : UInt8}  {L : List As} (hp : a0.Out.length ≤ 1000000000000) {H : Heap} {Z : Nat → Prop} (hO : Own H Z (L))  : HC Tryz.prog 50 [.agg (fGArc.enc a0).toArray, .int .u8 (a1.toNat : Int)] H (fun v H' => ∃ (Z' : Nat → Prop) , (∀ a1, Z a1 → Z' a1) ∧ v = str ((fOutB a0 a1)) ∧ Own H' Z' (L)) := by
  refine (funOut_ok (x := a0) (b := a1) (@funOut_wp a0 a1 hp) hO).mono ?_
  rintro v H' ⟨Z', r0, hz, hq, hv, hO'⟩
  obtain rfl := hq
  exact ⟨Z', hz, hv, hO'⟩
theorem funWord_ok {l : List Gfun_box_whittle_fun_place} {xat : Int} {v_1 : Value} {Q : (List UInt8) → Prop} {H : Heap} {Z : Nat → Prop} {L : List As} (h : wp_funWord l xat Q) (hO : Own H Z (L)) (hr_2 : Rd fGfun_box_whittle_fun_place.rep L v_1 l) : HC Tryz.prog 52 [v_1, .int .i64 xat] H (fun v H' => ∃ (Z' : Nat → Prop) (r0 : List UInt8) , (∀ b, Z b → Z' b) ∧ Q r0 ∧ v = str r0 ∧ Own H' Z' (L)) := by
 replace hO := hO.inZ
 unfold wp_funWord at h
 refine hc_of_hw (N := 27) (rs := [(.tmp 4)]) Tryz.func52 rfl rfl rfl rfl (hw_seq (hw_region (hl_v (v_assign rfl) rfl (hl_nil (thenQ_n (hw_seq (hw_region (hl_v (v_assign rfl) rfl (hl_nil (thenQ_n (hw_seq (hw_block ?_))))))))))))
 obtain ⟨I_4, μ_5, h, hI_6⟩ := h
 replace hO := hO.nil fByte 5
 refine hw_lp (fun n' g' H' => ∃ (xat2 : Int) (out : List UInt8) (v_3 : Value) (Z' : Nat → Prop), n' = μ_5 xat2 out ∧ g' = [(0, v_1), (1, .int .i64 xat2), (5, v_3)] ∧ I_4 xat2 out ∧ Own H' Z' (own fByte 5 v_3 out :: inZ Z :: L)) _ _ (a_c 0 rfl (a_c 1 rfl (a_c 5 rfl a_n))) ⟨xat, [], .slice none 0 0, _, rfl, rfl, h, hO⟩ ?_
 rintro _ _ H_7 ⟨xat2, out, v_3, Z_8, rfl, rfl, h, hO⟩
 replace h := hI_6 xat2 out h
 refine hw_seq (hw_seq (hw_region (hl_v (v_move rfl) rfl (hl_v (v_move rfl) rfl ?_))))
 obtain ⟨hs_10, h⟩ := h
 refine hl_v (v_ixL underlying57 sizeOf86 rfl rfl (Rd.sl hr_2 (Own.tails [_, _] hO)) hs_10) rfl (hl_v (v_fieldA underlying86 rfl sizeOf3 rfl) rfl (hl_v (v_loadSub (j := 4) isAgg3 rfl (Rd.sl hr_2 (Own.tails [_, _] hO)) rfl hs_10 rfl) rfl (hl_v (v_geq rfl rfl) rfl (hl_nil (thenQ_n (hw_cond rfl (fun hc_11 => ?_) (fun hc_11 => ?_)))))))
 ·replace h := ite_t h hc_11
  refine hw_skip (thenQ_n (hw_seq (hw_block (hw_region (hl_v (v_move rfl) rfl (hl_v (v_move rfl) rfl (hl_v (v_ixL underlying57 sizeOf86 rfl rfl (Rd.sl hr_2 (Own.tails [_, _] hO)) hs_10) rfl (hl_v (v_fieldA underlying86 rfl sizeOf5 rfl) rfl (hl_v (v_loadSub (j := 5) isAgg5 rfl (Rd.sl hr_2 (Own.tails [_, _] hO)) rfl hs_10 rfl) rfl (hl_h (o_lit (g := fByte) (l := [(l.getD xat2.toNat default).by']) (xs := [.tmp 21]) hO underlying33 sizeOf5 zeroValue5 rfl (evs_cons rfl evs_nil) rfl rfl rfl rfl rfl) rfl ?_))))))))))
  rintro v_13 H_12 hO
  refine hl_v (v_move rfl) rfl ?_
  obtain ⟨hs_16, h⟩ := h
  refine hl_h (o_append (l2 := out) hO 0 rfl rfl underlying33 type5 rfl rfl rfl rfl rfl rfl rfl (hO.osl 1 rfl) hs_16 (le63 hs_16 rfl)) rfl ?_
  rintro v_15 H_14 hO
  refine hl_v (v_assign rfl) rfl (hl_nil (blockQ_n (thenQ_n (hw_region (hl_v (v_move rfl) rfl (hl_v (v_move rfl) rfl (hl_v (v_ixL underlying57 sizeOf86 rfl rfl (Rd.sl hr_2 (Own.tails [_, _, _] hO)) hs_10) rfl (hl_v (v_fieldA underlying86 rfl sizeOf3 rfl) rfl (hl_v (v_loadSub (j := 4) isAgg3 rfl (Rd.sl hr_2 (Own.tails [_, _, _] hO)) rfl hs_10 rfl) rfl (hl_v (v_assign rfl) rfl (hl_nil (thenQ_n ?_))))))))))))
  exact ⟨_, _, (a_c 0 rfl (a_c 1 rfl (a_c 5 rfl a_n))), ⟨(l.getD xat2.toNat default).from', ([(l.getD xat2.toNat default).by'] ++ out), v_15, _, rfl, rfl, h.1, (Own.sel (Ls := [_, _, _]) (L := L) [0, 2] rfl hO)⟩, h.2⟩
 ·replace h := ite_f h hc_11
  refine hw_exit (thenQ_e (thenQ_e (blockQ_hit (thenQ_n (hw_seq (hw_region (hl_v (v_move rfl) rfl (hl_v (v_bytesStr underlying33 underlying5 underlying9 rfl (hO.osl 0 rfl)) rfl (hl_v (v_assign rfl) rfl (hl_nil (thenQ_n (hw_ret (ret_i _ (ra_t rfl ra_nil) ?_)))))))))))))
  exact ⟨_, out, (hO.inz 1 rfl), h, rfl, (Own.sel (Ls := [_, _]) (L := L) [] rfl hO)⟩
theorem funWord_spec {a0 : List Gfun_box_whittle_fun_place} {a1 : Int} {v_1 : Value} {L : List As} (hp : LinksOk a0 ∧ 0 ≤ a1 ∧ a1 < a0.length) {H : Heap} {Z : Nat → Prop} (hO : Own H Z (L)) (hr_2 : Rd fGfun_box_whittle_fun_place.rep L v_1 a0) : HC Tryz.prog 52 [v_1, .int .i64 a1] H (fun v H' => ∃ (Z' : Nat → Prop) , (∀ b, Z b → Z' b) ∧ v = str ((nWord a0 a1)) ∧ Own H' Z' (L)) := by
  refine (funWord_ok (l := a0) (xat := a1) (@funWord_wp a0 a1 hp) hO hr_2).mono ?_
  rintro v H' ⟨Z', r0, hz, hq, hv, hO'⟩
  obtain rfl := hq
  exact ⟨Z', hz, hv, hO'⟩
abbrev zz6 (xat : (Int × Int)) (a : List UInt8) (b : List UInt8) (xfrom : Int) (xby : UInt8) := (⟨(⟨xat, (⟨(a.drop (lcp a b)), (b.drop (lcp a b))⟩ : Gfun_lag)⟩ : Gfun_place), xfrom, xby⟩ : Gfun_box_whittle_fun_place)
abbrev zz7 := (⟨([] : List UInt8), ([] : List UInt8), ([] : List UInt8)⟩ : Gfun_tail)
theorem funPush_ok {f : Gfun_finder} {xat : (Int × Int)} {a : List UInt8} {b : List UInt8} {xfrom : Int} {xby : UInt8} {v_2 : Value} {v_4 : Value} {v_6 : Value} {v_8 : Value} {v_10 : Value} {v_13 : Value} {b_1 : Nat} {b_12 : Nat} {b_14 : Nat} {Q : Gfun_finder → Prop} {H : Heap} {Z : Nat → Prop} {L : List As} (h : wp_funPush f xat a b xfrom xby Q) (hO : Own H Z (box b_1 [.int .i64 f.t.States, v_2, v_4, v_6, v_8, v_10, .map (some b_12), v_13, .map (some b_14)] 60 :: tbl (aggOf (fTwo fInt)) (aggOf fGfun_tail) b_12 f.on' :: own fGfun_box_whittle_fun_place 86 v_13 f.rows :: tbl (aggOf (fTwo fInt)) (Value.int .i64) b_14 f.seen :: L)) (hf_3 : Fz fGTip.rep L v_2 f.t.Starts) (hf_5 : Fz fGTip.rep L v_4 f.t.Ends) (hf_7 : Fz fGArc.rep L v_6 f.t.Arcs) (hf_9 : Fz (Rep.sl fGArc.rep) L v_8 f.from') (hf_11 : Fz (Rep.sl fStr.rep) L v_10 f.ends) : HC Tryz.prog 29 [ptr b_1 0, .agg ((fTwo fInt).enc xat).toArray, str a, str b, .int .i64 xfrom, .int .u8 (xby.toNat : Int)] H (fun v H' => ∃ (Z' : Nat → Prop) (m0 : Gfun_finder) (v_15 : Value) (v_17 : Value) (v_19 : Value) (v_21 : Value) (v_23 : Value) (v_26 : Value) (b_25 : Nat) (b_27 : Nat), (∀ b, Z b → Z' b) ∧ Q m0 ∧ v = .tuple #[] ∧ Own H' Z' (box b_1 [.int .i64 m0.t.States, v_15, v_17, v_19, v_21, v_23, .map (some b_25), v_26, .map (some b_27)] 60 :: tbl (aggOf (fTwo fInt)) (aggOf fGfun_tail) b_25 m0.on' :: own fGfun_box_whittle_fun_place 86 v_26 m0.rows :: tbl (aggOf (fTwo fInt)) (Value.int .i64) b_27 m0.seen :: fz fGTip.rep v_15 m0.t.Starts :: fz fGTip.rep v_17 m0.t.Ends :: fz fGArc.rep v_19 m0.t.Arcs :: fz (Rep.sl fGArc.rep) v_21 m0.from' :: fz (Rep.sl fStr.rep) v_23 m0.ends :: L)) := by
 replace hO := hO.inZ
 replace hO := Fz.items [_, _, _, _, _] hf_3 hO
 replace hO := Fz.items [_, _, _, _, _, _] hf_5 hO
 replace hO := Fz.items [_, _, _, _, _, _, _] hf_7 hO
 replace hO := Fz.items [_, _, _, _, _, _, _, _] hf_9 hO
 replace hO := Fz.items [_, _, _, _, _, _, _, _, _] hf_11 hO
 unfold wp_funPush at h
 refine hc_of_hw (N := 49) (rs := []) Tryz.func29 rfl rfl rfl rfl (hw_seq (hw_region (hl_h (o_box (cs := ((fTwo fInt).enc xat)) hO rfl rfl) rfl ?_)))
 rintro _ H_28 ⟨b_29, rfl, hO⟩
 refine hl_nil (thenQ_n (hw_seq (hw_held2 11 (fun H' => ∃ Z' : Nat → Prop, Own H' Z' (box b_29 ((fTwo fInt).enc xat) 79 :: fz (Rep.sl fStr.rep) v_10 f.ends :: fz (Rep.sl fGArc.rep) v_8 f.from' :: fz fGArc.rep v_6 f.t.Arcs :: fz fGTip.rep v_4 f.t.Ends :: fz fGTip.rep v_2 f.t.Starts :: inZ Z :: box b_1 [.int .i64 f.t.States, v_2, v_4, v_6, v_8, v_10, .map (some b_12), v_13, .map (some b_14)] 60 :: tbl (aggOf (fTwo fInt)) (aggOf fGfun_tail) b_12 f.on' :: own fGfun_box_whittle_fun_place 86 v_13 f.rows :: tbl (aggOf (fTwo fInt)) (Value.int .i64) b_14 f.seen :: L)) (.step 0 false (.step 1 false (.step 2 false (.step 3 false (.step 4 false (.step 5 false (.step 6 false (.step 7 false (.step 8 false (.step 9 true (.step 10 true .done))))))))))) (.step 11 true .done) Tryz.mixed (by kernel_rfl) ⟨_, hO⟩ (hd_v rfl (fun _ _ => (v_move rfl)) rfl (hd_v rfl (fun _ _ => (v_nilCheck rfl)) rfl (hd_v rfl (fun _ _ => (v_fieldA underlying60 rfl sizeOf55 rfl)) rfl (hd_v rfl (fun H' hS => by obtain ⟨Z', hO⟩ := hS; exact (v_load1 isAgg55 rfl (Blk.cell (hO.box 7 rfl) rfl))) rfl (hd_v rfl (fun H' hS => by obtain ⟨Z', hO⟩ := hS; exact (v_loadA isAgg79 sizeOf79 rfl (Blk.at0 (hO.box 0 rfl)) rfl)) rfl (hd_v rfl (fun H' hS => by obtain ⟨Z', hO⟩ := hS; exact (v_lookup2 (d := zz7) (keyTwo underlying79 underlying3 sizeOf3 isAgg3) rfl underlying55 zeroValue105 rfl rfl (hO.tbl 8 rfl))) rfl (hd_v rfl (fun _ _ => (v_move rfl)) rfl (hd_v rfl (fun _ _ => (v_extract rfl rfl)) rfl ?_)))))))))))
 refine hd_v rfl (fun _ _ => (v_extract rfl rfl)) rfl (hd_h (o_alloc (cs := (fGfun_tail.enc zz7)) hO zeroValue105 rfl) (by rintro _ H_30 ⟨b_31, rfl, hO⟩; exact ⟨_, (Own.sel (Ls := [_, _, _, _, _, _, _, _, _, _, _, _]) (L := L) [1, 2, 3, 4, 5, 6, 7, 8, 9, 10, 11] rfl hO)⟩) rfl ?_)
 rintro _ H_30 ⟨b_31, rfl, hO⟩
 refine hd_s (o_storeA (us := (fGfun_tail.enc ((aget f.on' xat).getD zz7))) hO 0 rfl sizeOf105 rfl rfl rfl rfl (by intro u hu; exact (fGfun_tail).one _ u hu)) (by rintro _ H_32 hO; exact ⟨_, (Own.sel (Ls := [_, _, _, _, _, _, _, _, _, _, _, _]) (L := L) [1, 2, 3, 4, 5, 6, 7, 8, 9, 10, 11] rfl hO)⟩) ?_
 rintro _ H_32 hO
 refine hd_nil (hd_h (OpV.toH (v_assign rfl)) (fun _ _ hR => trivial) rfl ?_)
 rintro vv HH ⟨hvv, hHH⟩
 obtain rfl := hvv.symm
 obtain rfl := hHH.symm
 refine hd_nil (thenQ_n (hw_seq (hw_region (hl_v (v_move rfl) rfl (hl_nil (thenQ_n (hw_cond rfl (fun hc_33 => ?_) (fun hc_33 => ?_))))))))
 ·replace h := ite_t h hc_33
  refine hw_seq (hw_region (hl_v (v_move rfl) rfl (hl_v (v_move rfl) rfl ?_)))
  obtain ⟨hs_34, h⟩ := h
  refine hl_v (v_call call51 (evs_cons rfl (evs_cons rfl evs_nil)) (textLagP_spec (a0 := a) (a1 := b) hs_34 hO)) rfl (hl_v (v_move rfl) rfl (hl_v (v_extract rfl rfl) rfl (hl_v (v_extract rfl rfl) rfl (hl_v (v_assign rfl) rfl (hl_v (v_assign rfl) rfl (hl_nil (thenQ_n (hw_sub _ (a_c 0 rfl (a_c 4 rfl (a_c 5 rfl (a_c 7 rfl (a_c 14 rfl (a_c 15 rfl a_n)))))) (hw_held2 15 (fun H' => ∃ Z' : Nat → Prop, Own H' Z' (box b_31 (fGfun_tail.enc ((aget f.on' xat).getD zz7)) 105 :: box b_29 ((fTwo fInt).enc xat) 79 :: fz (Rep.sl fStr.rep) v_10 f.ends :: fz (Rep.sl fGArc.rep) v_8 f.from' :: fz fGArc.rep v_6 f.t.Arcs :: fz fGTip.rep v_4 f.t.Ends :: fz fGTip.rep v_2 f.t.Starts :: inZ Z :: box b_1 [.int .i64 f.t.States, v_2, v_4, v_6, v_8, v_10, .map (some b_12), v_13, .map (some b_14)] 60 :: tbl (aggOf (fTwo fInt)) (aggOf fGfun_tail) b_12 f.on' :: tbl (aggOf (fTwo fInt)) (Value.int .i64) b_14 f.seen :: L)) (.step 0 false (.step 1 false (.step 2 false (.step 3 false (.step 4 false (.step 5 false (.step 6 false (.step 7 false (.step 8 false (.step 9 false (.step 10 false (.step 11 false (.step 12 false (.step 13 true (.step 14 true .done))))))))))))))) (.step 15 true (.step 16 true (.step 17 true .done))) Tryz.mixed (by kernel_rfl) ⟨_, (Own.sel (Ls := [_, _, _, _, _, _, _, _, _, _, _, _]) (L := L) [0, 1, 2, 3, 4, 5, 6, 7, 8, 9, 11] rfl hO)⟩ ?_)))))))))
  refine hd_v rfl (fun _ _ => (v_move rfl)) rfl (hd_v rfl (fun _ _ => (v_move rfl)) rfl (hd_v rfl (fun _ _ => (v_nilCheck rfl)) rfl (hd_v rfl (fun _ _ => (v_fieldA underlying60 rfl sizeOf57 rfl)) rfl (hd_v rfl (fun H' hS => by obtain ⟨Z', hO⟩ := hS; exact (v_load1 isAgg57 rfl (Blk.cell (hO.box 8 rfl) rfl))) rfl (hd_v rfl (fun H' hS => by obtain ⟨Z', hO⟩ := hS; exact (v_loadA isAgg79 sizeOf79 rfl (Blk.at0 (hO.box 1 rfl)) rfl)) rfl (hd_v rfl (fun _ _ => (v_move rfl)) rfl (hd_v rfl (fun _ _ => (v_move rfl)) rfl (hd_v rfl (fun _ _ => (v_buildF (cs := (fGfun_lag.enc (⟨(a.drop (lcp a b)), (b.drop (lcp a b))⟩ : Gfun_lag))) (xs := [.tmp 38, .tmp 39]) (is := [0, 1]) rfl (evs_cons rfl (evs_cons rfl evs_nil)) (fun w => by show _ = _; kernel_rfl))) rfl (hd_v rfl (fun _ _ => (v_buildF (cs := (fGfun_place.enc (⟨xat, (⟨(a.drop (lcp a b)), (b.drop (lcp a b))⟩ : Gfun_lag)⟩ : Gfun_place))) (xs := [.tmp 37, .tmp 40]) (is := [0, 1]) rfl (evs_cons rfl (evs_cons rfl evs_nil)) (fun w => by show _ = _; kernel_rfl))) rfl (hd_v rfl (fun _ _ => (v_move rfl)) rfl (hd_v rfl (fun _ _ => (v_move rfl)) rfl (hd_v rfl (fun _ _ => (v_buildF (cs := (fGfun_box_whittle_fun_place.enc (zz6 xat a b xfrom xby))) (xs := [.tmp 41, .tmp 42, .tmp 43]) (is := [0, 1, 2]) rfl (evs_cons rfl (evs_cons rfl (evs_cons rfl evs_nil))) (fun w => by show _ = _; kernel_rfl))) rfl (hd_h (o_lit (g := fGfun_box_whittle_fun_place) (l := [(zz6 xat a b xfrom xby)]) (xs := [.tmp 44]) hO underlying57 sizeOf86 zeroValue86 rfl (evs_cons rfl evs_nil) rfl rfl rfl rfl rfl) (by rintro v_36 H_35 hO; exact ⟨_, (Own.sel (Ls := [_, _, _, _, _, _, _, _, _, _, _, _, _]) (L := L) [1, 2, 3, 4, 5, 6, 7, 8, 9, 10, 12] rfl hO)⟩) rfl ?_)))))))))))))
  rintro v_36 H_35 hO
  obtain ⟨hs_39, h⟩ := h
  refine hd_h (o_append (l2 := [(zz6 xat a b xfrom xby)]) hO 11 rfl rfl underlying57 type86 rfl rfl rfl rfl rfl rfl rfl (hO.osl 0 rfl) hs_39 (le63 hs_39 rfl)) (by rintro v_38 H_37 hO; exact ⟨_, (Own.sel (Ls := [_, _, _, _, _, _, _, _, _, _, _, _, _]) (L := L) [1, 2, 3, 4, 5, 6, 7, 8, 9, 10, 12] rfl hO)⟩) rfl ?_
  rintro v_38 H_37 hO
  refine hd_nil (hd_h (OpV.toH (v_nilCheck rfl)) (fun _ _ hR => trivial) rfl ?_)
  rintro vv HH ⟨hvv, hHH⟩
  obtain rfl := hvv.symm
  obtain rfl := hHH.symm
  refine hd_h (OpV.toH (v_fieldA underlying60 rfl sizeOf57 rfl)) (fun _ _ hR => trivial) rfl ?_
  rintro vv HH ⟨hvv, hHH⟩
  obtain rfl := hvv.symm
  obtain rfl := hHH.symm
  refine hd_s (o_store1 hO 9 rfl sizeOf57 rfl rfl rfl (Sl.one (hO.osl 11 rfl))) (fun _ _ _ => trivial) ?_
  rintro _ H_40 hO
  refine hd_nil (ret_n _ ra_nil ?_)
  exact ⟨_, (⟨f.t, f.from', f.ends, f.on', (f.rows ++ [(zz6 xat a b xfrom xby)]), f.seen⟩ : Gfun_finder), v_2, v_4, v_6, v_8, v_10, v_38, b_12, b_14, (hO.inz 8 rfl), h, rfl, (Own.sel (Ls := [_, _, _, _, _, _, _, _, _, _, _, _, _]) (L := L) [9, 10, 11, 12, 7, 6, 5, 4, 3] rfl hO)⟩
 ·replace h := ite_f h hc_33
  refine hw_skip (ret_n _ ra_nil ?_)
  exact ⟨_, f, v_2, v_4, v_6, v_8, v_10, v_13, b_12, b_14, (hO.inz 7 rfl), h, rfl, (Own.sel (Ls := [_, _, _, _, _, _, _, _, _, _, _, _]) (L := L) [8, 9, 10, 11, 6, 5, 4, 3, 2] rfl hO)⟩
theorem funPush_spec {a0 : Gfun_finder} {a1 : (Int × Int)} {a2 : List UInt8} {a3 : List UInt8} {a4 : Int} {a5 : UInt8} {v_2 : Value} {v_4 : Value} {v_6 : Value} {v_8 : Value} {v_10 : Value} {v_13 : Value} {b_1 : Nat} {b_12 : Nat} {b_14 : Nat} {L : List As} (hp : a2.length ≤ 1000000000000 ∧ a3.length ≤ 1000000000000 ∧ a0.rows.length ≤ 1000000000000) {H : Heap} {Z : Nat → Prop} (hO : Own H Z (box b_1 [.int .i64 a0.t.States, v_2, v_4, v_6, v_8, v_10, .map (some b_12), v_13, .map (some b_14)] 60 :: tbl (aggOf (fTwo fInt)) (aggOf fGfun_tail) b_12 a0.on' :: own fGfun_box_whittle_fun_place 86 v_13 a0.rows :: tbl (aggOf (fTwo fInt)) (Value.int .i64) b_14 a0.seen :: L)) (hf_3 : Fz fGTip.rep L v_2 a0.t.Starts) (hf_5 : Fz fGTip.rep L v_4 a0.t.Ends) (hf_7 : Fz fGArc.rep L v_6 a0.t.Arcs) (hf_9 : Fz (Rep.sl fGArc.rep) L v_8 a0.from') (hf_11 : Fz (Rep.sl fStr.rep) L v_10 a0.ends) : HC Tryz.prog 29 [ptr b_1 0, .agg ((fTwo fInt).enc a1).toArray, str a2, str a3, .int .i64 a4, .int .u8 (a5.toNat : Int)] H (fun v H' => ∃ (Z' : Nat → Prop) (v_15 : Value) (v_17 : Value) (v_19 : Value) (v_21 : Value) (v_23 : Value) (v_26 : Value) (b_25 : Nat) (b_27 : Nat), (∀ a3, Z a3 → Z' a3) ∧ v = .tuple #[] ∧ Own H' Z' (box b_1 [.int .i64 ((nPush a1 a2 a3 a4 a5 a0)).t.States, v_15, v_17, v_19, v_21, v_23, .map (some b_25), v_26, .map (some b_27)] 60 :: tbl (aggOf (fTwo fInt)) (aggOf fGfun_tail) b_25 ((nPush a1 a2 a3 a4 a5 a0)).on' :: own fGfun_box_whittle_fun_place 86 v_26 ((nPush a1 a2 a3 a4 a5 a0)).rows :: tbl (aggOf (fTwo fInt)) (Value.int .i64) b_27 ((nPush a1 a2 a3 a4 a5 a0)).seen :: fz fGTip.rep v_15 ((nPush a1 a2 a3 a4 a5 a0)).t.Starts :: fz fGTip.rep v_17 ((nPush a1 a2 a3 a4 a5 a0)).t.Ends :: fz fGArc.rep v_19 ((nPush a1 a2 a3 a4 a5 a0)).t.Arcs :: fz (Rep.sl fGArc.rep) v_21 ((nPush a1 a2 a3 a4 a5 a0)).from' :: fz (Rep.sl fStr.rep) v_23 ((nPush a1 a2 a3 a4 a5 a0)).ends :: L)) := by
  refine (funPush_ok (f := a0) (xat := a1) (a := a2) (b := a3) (xfrom := a4) (xby := a5) (@funPush_wp a0 a1 a2 a3 a4 a5 hp) hO hf_3 hf_5 hf_7 hf_9 hf_11).mono ?_
  rintro v H' ⟨Z', m0, v_15, v_17, v_19, v_21, v_23, v_26, b_25, b_27, hz, hq, hv, hO'⟩
  obtain rfl := hq
  exact ⟨Z', v_15, v_17, v_19, v_21, v_23, v_26, b_25, b_27, hz, hv, hO'⟩
theorem funStep_ok {f : Gfun_finder} {i : Int} {x : GArc} {y : GArc} {v_2 : Value} {v_4 : Value} {v_6 : Value} {v_8 : Value} {v_10 : Value} {v_13 : Value} {b_1 : Nat} {b_12 : Nat} {b_14 : Nat} {Q : Gfun_finder → Prop} {H : Heap} {Z : Nat → Prop} {L : List As} (h : wp_funStep f i x y Q) (hO : Own H Z (box b_1 [.int .i64 f.t.States, v_2, v_4, v_6, v_8, v_10, .map (some b_12), v_13, .map (some b_14)] 60 :: tbl (aggOf (fTwo fInt)) (aggOf fGfun_tail) b_12 f.on' :: own fGfun_box_whittle_fun_place 86 v_13 f.rows :: tbl (aggOf (fTwo fInt)) (Value.int .i64) b_14 f.seen :: L)) (hf_3 : Fz fGTip.rep L v_2 f.t.Starts) (hf_5 : Fz fGTip.rep L v_4 f.t.Ends) (hf_7 : Fz fGArc.rep L v_6 f.t.Arcs) (hf_9 : Fz (Rep.sl fGArc.rep) L v_8 f.from') (hf_11 : Fz (Rep.sl fStr.rep) L v_10 f.ends) : HC Tryz.prog 31 [ptr b_1 0, .int .i64 i, .agg (fGArc.enc x).toArray, .agg (fGArc.enc y).toArray] H (fun v H' => ∃ (Z' : Nat → Prop) (m0 : Gfun_finder) (v_15 : Value) (v_17 : Value) (v_19 : Value) (v_21 : Value) (v_23 : Value) (v_26 : Value) (b_25 : Nat) (b_27 : Nat), (∀ b, Z b → Z' b) ∧ Q m0 ∧ v = .tuple #[] ∧ Own H' Z' (box b_1 [.int .i64 m0.t.States, v_15, v_17, v_19, v_21, v_23, .map (some b_25), v_26, .map (some b_27)] 60 :: tbl (aggOf (fTwo fInt)) (aggOf fGfun_tail) b_25 m0.on' :: own fGfun_box_whittle_fun_place 86 v_26 m0.rows :: tbl (aggOf (fTwo fInt)) (Value.int .i64) b_27 m0.seen :: fz fGTip.rep v_15 m0.t.Starts :: fz fGTip.rep v_17 m0.t.Ends :: fz fGArc.rep v_19 m0.t.Arcs :: fz (Rep.sl fGArc.rep) v_21 m0.from' :: fz (Rep.sl fStr.rep) v_23 m0.ends :: L)) := by
 replace hO := hO.inZ
 replace hO := Fz.items [_, _, _, _, _] hf_3 hO
 replace hO := Fz.items [_, _, _, _, _, _] hf_5 hO
 replace hO := Fz.items [_, _, _, _, _, _, _] hf_7 hO
 replace hO := Fz.items [_, _, _, _, _, _, _, _] hf_9 hO
 replace hO := Fz.items [_, _, _, _, _, _, _, _, _] hf_11 hO
 unfold wp_funStep at h
 refine hc_of_hw (N := 58) (rs := []) Tryz.func31 rfl rfl rfl rfl (hw_seq (hw_region (hl_h (o_box (cs := (fGArc.enc x)) hO rfl rfl) rfl ?_)))
 rintro _ H_28 ⟨b_29, rfl, hO⟩
 refine hl_h (o_box (cs := (fGArc.enc y)) hO rfl rfl) rfl ?_
 rintro _ H_30 ⟨b_31, rfl, hO⟩
 refine hl_nil (thenQ_n (hw_seq (hw_region (hl_v (v_move rfl) rfl (hl_v (v_nilCheck rfl) rfl (hl_v (v_fieldA underlying60 rfl sizeOf57 rfl) rfl (hl_v (v_load1 isAgg57 rfl (Blk.cell (hO.box 8 rfl) rfl)) rfl (hl_v (v_move rfl) rfl ?_))))))))
 obtain ⟨hs_32, h⟩ := h
 refine hl_v (v_ixL underlying57 sizeOf86 rfl rfl (hO.osl 10 rfl) hs_32) rfl (hl_v (v_fieldA underlying86 rfl sizeOf84 rfl) rfl (hl_v (v_loadSubA (o := 0) isAgg84 sizeOf84 rfl (hO.osl 10 rfl) rfl hs_32 rfl) rfl (hl_h (o_alloc (cs := (fGfun_place.enc (⟨((0 : Int), (0 : Int)), (⟨([] : List UInt8), ([] : List UInt8)⟩ : Gfun_lag)⟩ : Gfun_place))) hO zeroValue84 rfl) rfl ?_)))
 rintro _ H_33 ⟨b_34, rfl, hO⟩
 refine hl_s (o_storeA (us := (fGfun_place.enc ((f.rows.getD i.toNat default).it))) hO 0 rfl sizeOf84 rfl rfl rfl rfl (by intro u hu; exact (fGfun_place).one _ u hu)) ?_
 rintro _ H_35 hO
 refine hl_nil (thenQ_n (hw_sub _ (a_c 0 rfl (a_c 1 rfl (a_c 6 rfl (a_c 7 rfl (a_c 8 rfl a_n))))) (hw_seq (hw_region (hl_v (v_fieldA underlying39 rfl sizeOf37 rfl) rfl (hl_v (v_loadA (cs := (sw x.Set)) isAgg37 sizeOf37 rfl (Blk.sub (n := 4) (hO.box 2 rfl) rfl) rfl) rfl (hl_v (v_fieldA underlying39 rfl sizeOf37 rfl) rfl (hl_v (v_loadA (cs := (sw y.Set)) isAgg37 sizeOf37 rfl (Blk.sub (n := 4) (hO.box 1 rfl) rfl) rfl) rfl (hl_h (h_call call49 (evs_cons rfl (evs_cons rfl evs_nil)) (setBoth_spec (a0 := x.Set) (a1 := y.Set) hO)) rfl ?_)))))))))
 rintro _ H_36 ⟨Z_37, _, rfl, hO⟩
 refine hl_h (o_alloc (cs := (sw BSet.zero)) hO zeroValue37 rfl) rfl ?_
 rintro _ H_39 ⟨b_40, rfl, hO⟩
 refine hl_s (o_storeA (us := (sw (BSet.band x.Set y.Set))) hO 0 rfl sizeOf37 rfl rfl rfl rfl (by intro u hu; exact (fSet).one _ u hu)) ?_
 rintro _ H_41 hO
 refine hl_nil (thenQ_n (hw_seq (hw_region (hl_v (v_move rfl) rfl (hl_nil (thenQ_n (hw_block ?_)))))))
 obtain ⟨I_50, h, hI_52⟩ := h
 refine hw_lp (fun n' g' H' => ∃ (f2 : Gfun_finder) (k : Nat) (v_42 : Value) (v_43 : Value) (v_44 : Value) (v_45 : Value) (v_46 : Value) (b_47 : Nat) (v_48 : Value) (b_49 : Nat) (Z' : Nat → Prop), n' = (256 - (k : Int)).toNat ∧ g' = [(0, ptr b_1 0), (1, .int .i64 i), (6, ptr b_29 0), (7, ptr b_31 0), (8, ptr b_34 0), (9, ptr b_40 0), (25, .int .i64 (k : Int))] ∧ I_50 f2 k ∧ k ≤ 256 ∧ Own H' Z' (fz (Rep.sl fStr.rep) v_46 f2.ends :: fz (Rep.sl fGArc.rep) v_45 f2.from' :: fz fGArc.rep v_44 f2.t.Arcs :: fz fGTip.rep v_43 f2.t.Ends :: fz fGTip.rep v_42 f2.t.Starts :: box b_40 (sw (BSet.band x.Set y.Set)) 37 :: box b_34 (fGfun_place.enc ((f.rows.getD i.toNat default).it)) 84 :: box b_31 (fGArc.enc y) 39 :: box b_29 (fGArc.enc x) 39 :: inZ Z :: box b_1 [.int .i64 f2.t.States, v_42, v_43, v_44, v_45, v_46, .map (some b_47), v_48, .map (some b_49)] 60 :: tbl (aggOf (fTwo fInt)) (aggOf fGfun_tail) b_47 f2.on' :: own fGfun_box_whittle_fun_place 86 v_48 f2.rows :: tbl (aggOf (fTwo fInt)) (Value.int .i64) b_49 f2.seen :: L)) _ _ (a_c 0 rfl (a_c 1 rfl (a_c 6 rfl (a_c 7 rfl (a_c 8 rfl (a_c 9 rfl (a_c 25 rfl a_n))))))) ⟨f, 0, v_2, v_4, v_6, v_8, v_10, b_12, v_13, b_14, _, rfl, rfl, h, by omega, (Own.sel (Ls := [_, _, _, _, _, _, _, _, _, _, _, _, _, _]) (L := L) [4, 5, 6, 7, 8, 0, 1, 2, 3, 9, 10, 11, 12, 13] rfl hO)⟩ ?_
 rintro _ _ H_53 ⟨f2, k, v_42, v_43, v_44, v_45, v_46, b_47, v_48, b_49, Z_54, rfl, rfl, h, hb_55, hO⟩
 replace h := hI_52 f2 k h hb_55
 refine hw_seq (hw_region (hl_v (v_lss rfl rfl) rfl (hl_nil (thenQ_n (hw_seq (hw_cond rfl (fun hc_56 => ?_) (fun hc_56 => ?_)))))))
 ·replace h := ite_t h hc_56
  refine hw_skip (thenQ_n (hw_seq (hw_block (hw_seq (hw_region (hl_v (v_move rfl) rfl (hl_v (v_assign rfl) rfl (hl_nil (thenQ_n (hw_seq (hw_region (hl_v (v_move rfl) rfl ?_))))))))))))
  obtain ⟨hs_57, h⟩ := h
  refine hl_v (v_toB (by rw [underlying3]; rfl) underlying5 rfl hs_57) rfl (hl_v (v_assign rfl) rfl (hl_nil (thenQ_n (hw_seq (hw_seq (hw_region (hl_v (v_loadA isAgg37 sizeOf37 rfl (Blk.at0 (hO.box 5 rfl)) rfl) rfl (hl_v (v_move rfl) rfl (hl_h (h_call call53 (evs_cons rfl (evs_cons rfl evs_nil)) (setHas_spec (a0 := (BSet.band x.Set y.Set)) (a1 := (UInt8.ofNat k)) hO)) rfl ?_)))))))))
  rintro _ H_58 ⟨Z_59, _, rfl, hO⟩
  refine hl_v (v_not rfl) rfl (hl_nil (thenQ_n (hw_sub _ (a_c 0 rfl (a_c 1 rfl (a_c 6 rfl (a_c 7 rfl (a_c 8 rfl (a_c 9 rfl (a_c 11 rfl (a_c 25 rfl (a_c 33 rfl a_n))))))))) (hw_cond rfl (fun hc_61 => ?_) (fun hc_61 => ?_)))))
  ·replace h := ite_t h hc_61
   refine hw_exit (thenQ_e (blockQ_hit (thenQ_n (hw_region (hl_v (v_add rfl rfl (by have hq := of_decide_eq_true hc_56; constructor <;> omega)) rfl (hl_v (v_move rfl) rfl (hl_nil (thenQ_n ?_))))))))
   exact ⟨_, _, (a_c 0 rfl (a_c 1 rfl (a_c 6 rfl (a_c 7 rfl (a_c 8 rfl (a_c 9 rfl (a_c 25 rfl a_n))))))), ⟨f2, k + 1, v_42, v_43, v_44, v_45, v_46, b_47, v_48, b_49, _, rfl, rfl, h, (by have hq := of_decide_eq_true hc_56; omega), hO⟩, (by have hq := of_decide_eq_true hc_56; omega)⟩
  ·replace h := ite_f h hc_61
   refine hw_skip (thenQ_n (hw_held (fun H' => ∃ Z' : Nat → Prop, Own H' Z' (fz (Rep.sl fStr.rep) v_46 f2.ends :: fz (Rep.sl fGArc.rep) v_45 f2.from' :: fz fGArc.rep v_44 f2.t.Arcs :: fz fGTip.rep v_43 f2.t.Ends :: fz fGTip.rep v_42 f2.t.Starts :: box b_40 (sw (BSet.band x.Set y.Set)) 37 :: box b_34 (fGfun_place.enc ((f.rows.getD i.toNat default).it)) 84 :: box b_31 (fGArc.enc y) 39 :: box b_29 (fGArc.enc x) 39 :: inZ Z :: L)) (.step 0 false (.step 1 false (.step 2 false (.step 3 false (.step 4 false (.step 5 false (.step 6 false (.step 7 false (.step 8 false (.step 9 false (.step 10 false (.step 13 false (.step 14 false (.step 15 false (.step 16 false (.step 17 false (.step 20 false (.step 21 false (.step 11 true (.step 12 false (.step 18 true (.step 19 false (.step 22 true .done))))))))))))))))))))))) Tryz.mixed (by kernel_rfl) ⟨_, (Own.sel (Ls := [_, _, _, _, _, _, _, _, _, _, _, _, _, _]) (L := L) [0, 1, 2, 3, 4, 5, 6, 7, 8, 9] rfl hO)⟩ (hd_v rfl (fun _ _ => (v_move rfl)) rfl ?_)))
   refine hd_v rfl (fun _ _ => (v_fieldA underlying39 rfl sizeOf3 rfl)) rfl (hd_v rfl (fun H' hS => by obtain ⟨Z', hO⟩ := hS; exact (v_load1 isAgg3 rfl (Blk.cell (hO.box 8 rfl) rfl))) rfl (hd_v rfl (fun _ _ => (v_fieldA underlying39 rfl sizeOf3 rfl)) rfl (hd_v rfl (fun H' hS => by obtain ⟨Z', hO⟩ := hS; exact (v_load1 isAgg3 rfl (Blk.cell (hO.box 7 rfl) rfl))) rfl (hd_v rfl (fun _ _ => (v_buildTwo underlying79 zeroValue79 rfl sizeOf3 rfl rfl)) rfl (hd_v rfl (fun _ _ => (v_fieldA underlying84 rfl sizeOf82 rfl)) rfl (hd_v rfl (fun _ _ => (v_fieldA underlying82 rfl sizeOf9 rfl)) rfl (hd_v rfl (fun H' hS => by obtain ⟨Z', hO⟩ := hS; exact (v_load1 isAgg9 rfl (Blk.cell (hO.box 6 rfl) rfl))) rfl (hd_v rfl (fun H' hS => by obtain ⟨Z', hO⟩ := hS; exact (v_loadA isAgg39 sizeOf39 rfl (Blk.at0 (hO.box 8 rfl)) rfl)) rfl (hd_v rfl (fun _ _ => (v_move rfl)) rfl (hd_v rfl (fun _ _ => (v_fieldA underlying84 rfl sizeOf82 rfl)) rfl (hd_v rfl (fun _ _ => (v_fieldA underlying82 rfl sizeOf9 rfl)) rfl (hd_v rfl (fun H' hS => by obtain ⟨Z', hO⟩ := hS; exact (v_load1 isAgg9 rfl (Blk.cell (hO.box 6 rfl) rfl))) rfl (hd_v rfl (fun H' hS => by obtain ⟨Z', hO⟩ := hS; exact (v_loadA isAgg39 sizeOf39 rfl (Blk.at0 (hO.box 7 rfl)) rfl)) rfl (hd_v rfl (fun _ _ => (v_move rfl)) rfl (hd_v rfl (fun _ _ => (v_move rfl)) rfl (hd_v rfl (fun _ _ => (v_move rfl)) rfl ?_))))))))))))))))
   obtain ⟨hs_62, h⟩ := h
   refine hd_h (h_call call50 (evs_cons rfl (evs_cons rfl evs_nil)) (funOut_spec (a0 := x) (a1 := (UInt8.ofNat k)) hs_62 hO)) (by rintro _ H_63 ⟨Z_64, _, rfl, hO⟩; exact ⟨_, (Own.sel (Ls := [_, _, _, _, _, _, _, _, _, _, _, _, _, _]) (L := L) [0, 1, 2, 3, 4, 5, 6, 7, 8, 9] rfl hO)⟩) rfl ?_
   rintro _ H_63 ⟨Z_64, _, rfl, hO⟩
   obtain ⟨hs_66, h⟩ := h
   refine hd_v rfl (fun _ _ => (v_addS rfl rfl hs_66)) rfl ?_
   obtain ⟨hs_67, h⟩ := h
   refine hd_h (h_call call50 (evs_cons rfl (evs_cons rfl evs_nil)) (funOut_spec (a0 := y) (a1 := (UInt8.ofNat k)) hs_67 hO)) (by rintro _ H_68 ⟨Z_69, _, rfl, hO⟩; exact ⟨_, (Own.sel (Ls := [_, _, _, _, _, _, _, _, _, _, _, _, _, _]) (L := L) [0, 1, 2, 3, 4, 5, 6, 7, 8, 9] rfl hO)⟩) rfl ?_
   rintro _ H_68 ⟨Z_69, _, rfl, hO⟩
   obtain ⟨hs_71, h⟩ := h
   refine hd_v rfl (fun _ _ => (v_addS rfl rfl hs_71)) rfl ?_
   obtain ⟨hs_72, h⟩ := h
   refine hd_h (h_call call29 (evs_cons rfl (evs_cons rfl (evs_cons rfl (evs_cons rfl (evs_cons rfl (evs_cons rfl evs_nil)))))) (funPush_spec (a0 := f2) (a1 := (x.To, y.To)) (a2 := ((((f.rows.getD i.toNat default).it).lag).a ++ (fOutB x (UInt8.ofNat k)))) (a3 := ((((f.rows.getD i.toNat default).it).lag).b ++ (fOutB y (UInt8.ofNat k)))) (a4 := i) (a5 := (UInt8.ofNat k)) (L := fz (Rep.sl fStr.rep) v_46 f2.ends :: fz (Rep.sl fGArc.rep) v_45 f2.from' :: fz fGArc.rep v_44 f2.t.Arcs :: fz fGTip.rep v_43 f2.t.Ends :: fz fGTip.rep v_42 f2.t.Starts :: box b_40 (sw (BSet.band x.Set y.Set)) 37 :: box b_34 (fGfun_place.enc ((f.rows.getD i.toNat default).it)) 84 :: box b_31 (fGArc.enc y) 39 :: box b_29 (fGArc.enc x) 39 :: inZ Z :: L) hs_72 (Own.sel (Ls := [_, _, _, _, _, _, _, _, _, _, _, _, _, _]) (L := L) [10, 11, 12, 13, 0, 1, 2, 3, 4, 5, 6, 7, 8, 9] rfl hO) (Fz.of (i := 4) rfl) (Fz.of (i := 3) rfl) (Fz.of (i := 2) rfl) (Fz.of (i := 1) rfl) (Fz.of (i := 0) rfl))) (by rintro _ H_73 ⟨Z_74, v_76, v_78, v_80, v_82, v_84, v_87, b_86, b_88, _, rfl, hO⟩; exact ⟨_, (Own.sel (Ls := [_, _, _, _, _, _, _, _, _, _, _, _, _, _, _, _, _, _, _]) (L := L) [9, 10, 11, 12, 13, 14, 15, 16, 17, 18] rfl hO)⟩) rfl ?_
   rintro _ H_73 ⟨Z_74, v_76, v_78, v_80, v_82, v_84, v_87, b_86, b_88, _, rfl, hO⟩
   refine hd_nil (blockQ_n (thenQ_n (hw_region (hl_v (v_add rfl rfl (by have hq := of_decide_eq_true hc_56; constructor <;> omega)) rfl (hl_v (v_move rfl) rfl (hl_nil (thenQ_n ?_)))))))
   exact ⟨_, _, (a_c 0 rfl (a_c 1 rfl (a_c 6 rfl (a_c 7 rfl (a_c 8 rfl (a_c 9 rfl (a_c 25 rfl a_n))))))), ⟨(nPush (x.To, y.To) ((((f.rows.getD i.toNat default).it).lag).a ++ (fOutB x (UInt8.ofNat k))) ((((f.rows.getD i.toNat default).it).lag).b ++ (fOutB y (UInt8.ofNat k))) i (UInt8.ofNat k) f2), k + 1, v_76, v_78, v_80, v_82, v_84, b_86, v_87, b_88, _, rfl, rfl, h, (by have hq := of_decide_eq_true hc_56; omega), (Own.sel (Ls := [_, _, _, _, _, _, _, _, _, _, _, _, _, _, _, _, _, _, _]) (L := L) [8, 7, 6, 5, 4, 14, 15, 16, 17, 18, 0, 1, 2, 3] rfl hO)⟩, (by have hq := of_decide_eq_true hc_56; omega)⟩
 ·replace h := ite_f h hc_56
  refine hw_exit (thenQ_e (thenQ_e (blockQ_hit (ret_n _ ra_nil ?_))))
  exact ⟨_, f2, v_42, v_43, v_44, v_45, v_46, v_48, b_47, b_49, (hO.inz 9 rfl), h, rfl, (Own.sel (Ls := [_, _, _, _, _, _, _, _, _, _, _, _, _, _]) (L := L) [10, 11, 12, 13, 4, 3, 2, 1, 0] rfl hO)⟩
theorem funStep_spec {a0 : Gfun_finder} {a1 : Int} {a2 : GArc} {a3 : GArc} {v_2 : Value} {v_4 : Value} {v_6 : Value} {v_8 : Value} {v_10 : Value} {v_13 : Value} {b_1 : Nat} {b_12 : Nat} {b_14 : Nat} {L : List As} (hp : a0.rows.length ≤ 500000000000 ∧ 0 ≤ a1 ∧ a1 < a0.rows.length ∧ a2.Out.length ≤ 1024 ∧ a3.Out.length ≤ 1024 ∧ (nLag a0.rows a1).lag.a.length ≤ 10000000000 ∧ (nLag a0.rows a1).lag.b.length ≤ 10000000000) {H : Heap} {Z : Nat → Prop} (hO : Own H Z (box b_1 [.int .i64 a0.t.States, v_2, v_4, v_6, v_8, v_10, .map (some b_12), v_13, .map (some b_14)] 60 :: tbl (aggOf (fTwo fInt)) (aggOf fGfun_tail) b_12 a0.on' :: own fGfun_box_whittle_fun_place 86 v_13 a0.rows :: tbl (aggOf (fTwo fInt)) (Value.int .i64) b_14 a0.seen :: L)) (hf_3 : Fz fGTip.rep L v_2 a0.t.Starts) (hf_5 : Fz fGTip.rep L v_4 a0.t.Ends) (hf_7 : Fz fGArc.rep L v_6 a0.t.Arcs) (hf_9 : Fz (Rep.sl fGArc.rep) L v_8 a0.from') (hf_11 : Fz (Rep.sl fStr.rep) L v_10 a0.ends) : HC Tryz.prog 31 [ptr b_1 0, .int .i64 a1, .agg (fGArc.enc a2).toArray, .agg (fGArc.enc a3).toArray] H (fun v H' => ∃ (Z' : Nat → Prop) (v_15 : Value) (v_17 : Value) (v_19 : Value) (v_21 : Value) (v_23 : Value) (v_26 : Value) (b_25 : Nat) (b_27 : Nat), (∀ b, Z b → Z' b) ∧ v = .tuple #[] ∧ Own H' Z' (box b_1 [.int .i64 ((nStp a1 a2 a3 a0)).t.States, v_15, v_17, v_19, v_21, v_23, .map (some b_25), v_26, .map (some b_27)] 60 :: tbl (aggOf (fTwo fInt)) (aggOf fGfun_tail) b_25 ((nStp a1 a2 a3 a0)).on' :: own fGfun_box_whittle_fun_place 86 v_26 ((nStp a1 a2 a3 a0)).rows :: tbl (aggOf (fTwo fInt)) (Value.int .i64) b_27 ((nStp a1 a2 a3 a0)).seen :: fz fGTip.rep v_15 ((nStp a1 a2 a3 a0)).t.Starts :: fz fGTip.rep v_17 ((nStp a1 a2 a3 a0)).t.Ends :: fz fGArc.rep v_19 ((nStp a1 a2 a3 a0)).t.Arcs :: fz (Rep.sl fGArc.rep) v_21 ((nStp a1 a2 a3 a0)).from' :: fz (Rep.sl fStr.rep) v_23 ((nStp a1 a2 a3 a0)).ends :: L)) := by
  refine (funStep_ok (f := a0) (i := a1) (x := a2) (y := a3) (@funStep_wp a0 a1 a2 a3 hp) hO hf_3 hf_5 hf_7 hf_9 hf_11).mono ?_
  rintro v H' ⟨Z', m0, v_15, v_17, v_19, v_21, v_23, v_26, b_25, b_27, hz, hq, hv, hO'⟩
  obtain rfl := hq
  exact ⟨Z', v_15, v_17, v_19, v_21, v_23, v_26, b_25, b_27, hz, hv, hO'⟩
abbrev zz8 (f : Gfun_finder) (i : Int) := ((aget f.on' (((f.rows.getD i.toNat default).it).at')).getD (⟨([] : List UInt8), ([] : List UInt8), ([] : List UInt8)⟩ : Gfun_tail))
theorem funWrong_ok {f : Gfun_finder} {i : Int} {v_2 : Value} {v_4 : Value} {v_6 : Value} {v_8 : Value} {v_10 : Value} {v_14 : Value} {b_1 : Nat} {b_12 : Nat} {b_16 : Nat} {Q : (List UInt8) → Bool → Prop} {H : Heap} {Z : Nat → Prop} {L : List As} (h : wp_funWrong f i Q) (hO : Own H Z (L)) (hf_3 : Fz fGTip.rep L v_2 f.t.Starts) (hf_5 : Fz fGTip.rep L v_4 f.t.Ends) (hf_7 : Fz fGArc.rep L v_6 f.t.Arcs) (hf_9 : Fz (Rep.sl fGArc.rep) L v_8 f.from') (hf_11 : Fz (Rep.sl fStr.rep) L v_10 f.ends) (ht_13 : Tb L (aggOf (fTwo fInt)) (aggOf fGfun_tail) b_12 f.on') (hr_15 : Rd fGfun_box_whittle_fun_place.rep L v_14 f.rows) (ht_17 : Tb L (aggOf (fTwo fInt)) (Value.int .i64) b_16 f.seen) (hb_18 : Bx L b_1 [.int .i64 f.t.States, v_2, v_4, v_6, v_8, v_10, .map (some b_12), v_14, .map (some b_16)] 60) : HC Tryz.prog 30 [ptr b_1 0, .int .i64 i] H (fun v H' => ∃ (Z' : Nat → Prop) (r0 : List UInt8) (r1 : Bool) , (∀ b, Z b → Z' b) ∧ Q r0 r1 ∧ v = .tuple #[str r0, .bool r1] ∧ Own H' Z' (L)) := by
 replace hO := hO.inZ
 replace hO := Fz.items [_] hf_3 hO
 replace hO := Fz.items [_, _] hf_5 hO
 replace hO := Fz.items [_, _, _] hf_7 hO
 replace hO := Fz.items [_, _, _, _] hf_9 hO
 replace hO := Fz.items [_, _, _, _, _] hf_11 hO
 unfold wp_funWrong at h
 refine hc_of_hw (N := 129) (rs := [(.tmp 4), (.tmp 5)]) Tryz.func30 rfl rfl rfl rfl (hw_seq (hw_region (hl_v (v_assign rfl) rfl (hl_v (v_assign rfl) rfl (hl_nil (thenQ_n (hw_seq (hw_region (hl_v (v_move rfl) rfl (hl_v (v_nilCheck rfl) rfl (hl_v (v_fieldA underlying60 rfl sizeOf57 rfl) rfl (hl_v (v_load1 isAgg57 rfl (Blk.cell (hb_18 _ _ (Own.tails [_, _, _, _, _, _] hO)) rfl)) rfl (hl_v (v_move rfl) rfl ?_)))))))))))))
 obtain ⟨hs_19, h⟩ := h
 refine hl_v (v_ixL underlying57 sizeOf86 rfl rfl (Rd.sl hr_15 (Own.tails [_, _, _, _, _, _] hO)) hs_19) rfl (hl_v (v_fieldA underlying86 rfl sizeOf84 rfl) rfl (hl_v (v_loadSubA (o := 0) isAgg84 sizeOf84 rfl (Rd.sl hr_15 (Own.tails [_, _, _, _, _, _] hO)) rfl hs_19 rfl) rfl (hl_h (o_alloc (cs := (fGfun_place.enc (⟨((0 : Int), (0 : Int)), (⟨([] : List UInt8), ([] : List UInt8)⟩ : Gfun_lag)⟩ : Gfun_place))) hO zeroValue84 rfl) rfl ?_)))
 rintro _ H_20 ⟨b_21, rfl, hO⟩
 refine hl_s (o_storeA (us := (fGfun_place.enc ((f.rows.getD i.toNat default).it))) hO 0 rfl sizeOf84 rfl rfl rfl rfl (by intro u hu; exact (fGfun_place).one _ u hu)) ?_
 rintro _ H_22 hO
 refine hl_nil (thenQ_n (hw_seq (hw_held2 8 (fun H' => ∃ Z' : Nat → Prop, Own H' Z' (box b_21 (fGfun_place.enc ((f.rows.getD i.toNat default).it)) 84 :: fz (Rep.sl fStr.rep) v_10 f.ends :: fz (Rep.sl fGArc.rep) v_8 f.from' :: fz fGArc.rep v_6 f.t.Arcs :: fz fGTip.rep v_4 f.t.Ends :: fz fGTip.rep v_2 f.t.Starts :: inZ Z :: L)) (.step 0 false (.step 1 false (.step 2 false (.step 3 false (.step 4 false (.step 5 false (.step 6 false (.step 7 true .done)))))))) (.step 8 true .done) Tryz.mixed (by kernel_rfl) ⟨_, hO⟩ (hd_v rfl (fun _ _ => (v_move rfl)) rfl (hd_v rfl (fun _ _ => (v_nilCheck rfl)) rfl (hd_v rfl (fun _ _ => (v_fieldA underlying60 rfl sizeOf55 rfl)) rfl (hd_v rfl (fun H' hS => by obtain ⟨Z', hO⟩ := hS; exact (v_load1 isAgg55 rfl (Blk.cell (hb_18 _ _ (Own.tails [_, _, _, _, _, _, _] hO)) rfl))) rfl (hd_v rfl (fun _ _ => (v_fieldA underlying84 rfl sizeOf79 rfl)) rfl (hd_v rfl (fun H' hS => by obtain ⟨Z', hO⟩ := hS; exact (v_loadA (cs := ((fTwo fInt).enc (((f.rows.getD i.toNat default).it).at'))) isAgg79 sizeOf79 rfl (Blk.sub (n := 2) (hO.box 0 rfl) rfl) rfl)) rfl (hd_v rfl (fun H' hS => by obtain ⟨Z', hO⟩ := hS; exact (v_lookup1 (d := (⟨([] : List UInt8), ([] : List UInt8), ([] : List UInt8)⟩ : Gfun_tail)) (keyTwo underlying79 underlying3 sizeOf3 isAgg3) rfl underlying55 zeroValue105 rfl rfl (ht_13 _ _ (Own.tails [_, _, _, _, _, _, _] hO)))) rfl (hd_h (o_alloc (cs := (fGfun_tail.enc (⟨([] : List UInt8), ([] : List UInt8), ([] : List UInt8)⟩ : Gfun_tail))) hO zeroValue105 rfl) (by rintro _ H_23 ⟨b_24, rfl, hO⟩; exact ⟨_, (Own.sel (Ls := [_, _, _, _, _, _, _, _]) (L := L) [1, 2, 3, 4, 5, 6, 7] rfl hO)⟩) rfl ?_)))))))))))
 rintro _ H_23 ⟨b_24, rfl, hO⟩
 refine hd_nil (hd_s (o_storeA (us := (fGfun_tail.enc (zz8 f i))) hO 0 rfl sizeOf105 rfl rfl rfl rfl (by intro u hu; exact (fGfun_tail).one _ u hu)) (fun _ _ _ => trivial) ?_)
 rintro _ H_25 hO
 refine hd_nil (thenQ_n (hw_seq (hw_region (hl_v (v_move rfl) rfl (hl_v (v_nilCheck rfl) rfl (hl_v (v_fieldA underlying60 rfl sizeOf57 rfl) rfl (hl_v (v_load1 isAgg57 rfl (Blk.cell (hb_18 _ _ (Own.tails [_, _, _, _, _, _, _, _] hO)) rfl)) rfl (hl_v (v_move rfl) rfl ?_))))))))
 obtain ⟨hs_26, h⟩ := h
 refine hl_h (h_call call52 (evs_cons rfl (evs_cons rfl evs_nil)) (funWord_spec (a0 := f.rows) (a1 := i) hs_26 hO (Rd.tails [_, _, _, _, _, _, _, _] hr_15))) rfl ?_
 rintro _ H_27 ⟨Z_28, _, rfl, hO⟩
 refine hl_v (v_assign rfl) rfl (hl_nil (thenQ_n (hw_sub _ (a_c 0 rfl (a_c 6 rfl (a_c 7 rfl (a_c 8 rfl a_n)))) (hw_seq (hw_seq (hw_region (hl_v (v_fieldA underlying84 rfl sizeOf82 rfl) rfl (hl_v (v_fieldA underlying82 rfl sizeOf9 rfl) rfl (hl_v (v_load1 isAgg9 rfl (Blk.cell (hO.box 1 rfl) rfl)) rfl (hl_v (v_fieldA underlying105 rfl sizeOf9 rfl) rfl (hl_v (v_load1 isAgg9 rfl (Blk.cell (hO.box 0 rfl) rfl)) rfl ?_)))))))))))
 obtain ⟨hs_30, h⟩ := h
 refine hl_v (v_addS rfl rfl hs_30) rfl (hl_v (v_fieldA underlying84 rfl sizeOf82 rfl) rfl (hl_v (v_fieldA underlying82 rfl sizeOf9 rfl) rfl (hl_v (v_load1 isAgg9 rfl (Blk.cell (hO.box 1 rfl) rfl)) rfl (hl_v (v_fieldA underlying105 rfl sizeOf9 rfl) rfl (hl_v (v_load1 isAgg9 rfl (Blk.cell (hO.box 0 rfl) rfl)) rfl ?_)))))
 obtain ⟨hs_31, h⟩ := h
 refine hl_v (v_addS rfl rfl hs_31) rfl (hl_v (v_neqS rfl rfl) rfl (hl_nil (thenQ_n (hw_sub _ (a_c 0 rfl (a_c 6 rfl (a_c 7 rfl (a_c 8 rfl (a_c 48 rfl a_n))))) (hw_cond rfl (fun hc_32 => ?_) (fun hc_32 => ?_))))))
 ·replace h := ite_t h hc_32
  refine hw_seq (hw_region (hl_v (v_move rfl) rfl (hl_v (v_fieldA underlying105 rfl sizeOf9 rfl) rfl (hl_v (v_load1 isAgg9 rfl (Blk.cell (hO.box 0 rfl) rfl)) rfl ?_))))
  obtain ⟨hs_33, h⟩ := h
  refine hl_v (v_addS rfl rfl hs_33) rfl (hl_v (v_assign rfl) rfl (hl_v (v_assign rfl) rfl (hl_nil (thenQ_n (hw_ret (thenQ_r (ret_i _ (ra_t rfl (ra_t rfl ra_nil)) ?_)))))))
  exact ⟨_, ((nWord f.rows i) ++ (zz8 f i).w), true, (hO.inz 7 rfl), h, rfl, (Own.sel (Ls := [_, _, _, _, _, _, _, _]) (L := L) [] rfl hO)⟩
 ·replace h := ite_f h hc_32
  refine hw_skip (thenQ_n (hw_seq (hw_seq (hw_quiet Tryz.mixed (by kernel_rfl) (hq_v (v_move rfl) rfl (hq_v (v_nilCheck rfl) rfl (hq_v (v_fieldA underlying60 rfl sizeOf58 rfl) rfl (hq_v (v_load1 isAgg58 rfl (Blk.cell (hb_18 _ _ (Own.tails [_, _, _, _, _, _, _, _] hO)) rfl)) rfl (hq_v (v_fieldA underlying84 rfl sizeOf79 rfl) rfl (hq_v (v_loadA (cs := ((fTwo fInt).enc (((f.rows.getD i.toNat default).it).at'))) isAgg79 sizeOf79 rfl (Blk.sub (n := 2) (hO.box 1 rfl) rfl) rfl) rfl (hq_v (v_lookup2 (d := (0 : Int)) (keyTwo underlying79 underlying3 sizeOf3 isAgg3) rfl underlying58 zeroValue3 rfl rfl (ht_17 _ _ (Own.tails [_, _, _, _, _, _, _, _] hO))) rfl (hq_v (v_move rfl) rfl (hq_v (v_extract rfl rfl) rfl (hq_v (v_extract rfl rfl) rfl (hq_v (v_assign rfl) rfl (hq_v (v_assign rfl) rfl (hq_nil (thenQ_n (hw_sub _ (a_c 0 rfl (a_c 6 rfl (a_c 7 rfl (a_c 8 rfl (a_c 9 rfl (a_c 10 rfl a_n)))))) (hw_seq (hw_quiet Tryz.mixed (by kernel_rfl) (hq_v (v_move rfl) rfl (hq_v (v_move rfl) rfl (hq_g rfl rfl (fun hg => (v_move rfl)) rfl (hq_g rfl rfl (fun hg => (v_nilCheck (gv_ok rfl hg))) rfl (hq_g rfl rfl (fun hg => (v_fieldA underlying60 rfl sizeOf57 (gv_ok rfl hg))) rfl (hq_g rfl rfl (fun hg => (v_load1 isAgg57 (gv_ok rfl hg) (Blk.cell (hb_18 _ _ (Own.tails [_, _, _, _, _, _, _, _] hO)) rfl))) rfl (hq_g rfl rfl (fun hg => (v_move rfl)) rfl ?_))))))))))))))))))))))))))))
  obtain ⟨hs_34, h⟩ := h
  refine hq_g rfl rfl (fun hg => (v_ixL underlying57 sizeOf86 (gv_ok rfl hg) (gv_ok rfl hg) (Rd.sl hr_15 (Own.tails [_, _, _, _, _, _, _, _] hO)) (hs_34 (gb_bool hg)))) rfl (hq_g rfl rfl (fun hg => (v_fieldA underlying86 rfl sizeOf84 (gv_ok rfl hg))) rfl (hq_g rfl rfl (fun hg => (v_fieldA underlying84 rfl sizeOf82 (gv_ok rfl hg))) rfl ?_))
  obtain ⟨hs_35, h⟩ := h
  refine hq_g rfl rfl (fun hg => (v_loadSubA (o := 2) isAgg82 sizeOf82 (gv_ok rfl hg) (Rd.sl hr_15 (Own.tails [_, _, _, _, _, _, _, _] hO)) rfl (hs_35 (gb_bool hg)) rfl)) rfl (hq_g rfl rfl (fun hg => (v_fieldA underlying84 rfl sizeOf82 rfl)) rfl (hq_g rfl rfl (fun hg => (v_loadA (cs := (fGfun_lag.enc (((f.rows.getD i.toNat default).it).lag))) isAgg82 sizeOf82 (gv_ok rfl hg) (Blk.sub (n := 2) (hO.box 1 rfl) rfl) rfl)) rfl (hq_g rfl rfl (fun hg => (v_neqRec (by kernel_rfl) (gv_ok rfl hg) (gv_ok rfl hg) (eqv_82_19 _ _))) rfl (hq_v (v_and rfl rfl) rfl (hq_nil (thenQ_n (hw_sub _ (a_c 0 rfl (a_c 6 rfl (a_c 7 rfl (a_c 8 rfl (a_c 9 rfl (a_c 77 rfl a_n)))))) (hw_cond rfl (fun hc_36 => ?_) (fun hc_36 => ?_)))))))))
  ·replace h := ite_t h hc_36
   refine hw_seq (hw_held2 9 (fun H' => ∃ Z' : Nat → Prop, Own H' Z' (box b_24 (fGfun_tail.enc (zz8 f i)) 105 :: box b_21 (fGfun_place.enc ((f.rows.getD i.toNat default).it)) 84 :: fz (Rep.sl fStr.rep) v_10 f.ends :: fz (Rep.sl fGArc.rep) v_8 f.from' :: fz fGArc.rep v_6 f.t.Arcs :: fz fGTip.rep v_4 f.t.Ends :: fz fGTip.rep v_2 f.t.Starts :: inZ Z :: L)) (.step 0 false (.step 1 false (.step 2 false (.step 3 false (.step 4 false (.step 6 false (.step 7 false (.step 5 true (.step 8 false .done))))))))) (.step 9 true (.step 10 true .done)) Tryz.mixed (by kernel_rfl) ⟨_, hO⟩ (hd_v rfl (fun _ _ => (v_move rfl)) rfl (hd_v rfl (fun _ _ => (v_nilCheck rfl)) rfl (hd_v rfl (fun _ _ => (v_fieldA underlying60 rfl sizeOf57 rfl)) rfl (hd_v rfl (fun H' hS => by obtain ⟨Z', hO⟩ := hS; exact (v_load1 isAgg57 rfl (Blk.cell (hb_18 _ _ (Own.tails [_, _, _, _, _, _, _, _] hO)) rfl))) rfl (hd_v rfl (fun _ _ => (v_move rfl)) rfl (hd_v rfl (fun _ _ => (v_fieldA underlying105 rfl sizeOf9 rfl)) rfl (hd_v rfl (fun H' hS => by obtain ⟨Z', hO⟩ := hS; exact (v_load1 isAgg9 rfl (Blk.cell (hO.box 0 rfl) rfl))) rfl ?_))))))))
   obtain ⟨hs_37, h⟩ := h
   refine hd_h (h_call call52 (evs_cons rfl (evs_cons rfl evs_nil)) (funWord_spec (a0 := f.rows) (a1 := ((aget f.seen (((f.rows.getD i.toNat default).it).at')).getD (0 : Int))) hs_37 hO (Rd.tails [_, _, _, _, _, _, _, _] hr_15))) (by rintro _ H_38 ⟨Z_39, _, rfl, hO⟩; exact ⟨_, hO⟩) rfl ?_
   rintro _ H_38 ⟨Z_39, _, rfl, hO⟩
   obtain ⟨hs_41, h⟩ := h
   refine hd_v rfl (fun _ _ => (v_addS rfl rfl hs_41)) rfl (hd_nil (hd_h (OpV.toH (v_assign rfl)) (fun _ _ hR => trivial) rfl ?_))
   rintro vv HH ⟨hvv, hHH⟩
   obtain rfl := hvv.symm
   obtain rfl := hHH.symm
   refine hd_h (OpV.toH (v_assign rfl)) (fun _ _ hR => trivial) rfl ?_
   rintro vv HH ⟨hvv, hHH⟩
   obtain rfl := hvv.symm
   obtain rfl := hHH.symm
   refine hd_nil (thenQ_n (hw_ret (thenQ_r (ret_i _ (ra_t rfl (ra_t rfl ra_nil)) ?_))))
   exact ⟨_, ((nWord f.rows ((aget f.seen (((f.rows.getD i.toNat default).it).at')).getD (0 : Int))) ++ (zz8 f i).w), true, (hO.inz 7 rfl), h, rfl, (Own.sel (Ls := [_, _, _, _, _, _, _, _]) (L := L) [] rfl hO)⟩
  ·replace h := ite_f h hc_36
   refine hw_skip (thenQ_n (hw_seq (hw_seq (hw_quiet Tryz.mixed (by kernel_rfl) (hq_v (v_move rfl) rfl (hq_v (v_nilCheck rfl) rfl (hq_v (v_fieldA underlying60 rfl sizeOf54 rfl) rfl (hq_v (v_load1 isAgg54 rfl (Blk.cell (hb_18 _ _ (Own.tails [_, _, _, _, _, _, _, _] hO)) rfl)) rfl (hq_v (v_fieldA underlying84 rfl sizeOf79 rfl) rfl (hq_v (v_ixA underlying79 sizeOf3 rfl rfl (by decide)) rfl (hq_v (v_load1 isAgg3 rfl (Blk.cell (hO.box 1 rfl) rfl)) rfl ?_)))))))))))
   obtain ⟨hs_42, h⟩ := h
   refine hq_v (v_ixL underlying54 sizeOf61 rfl rfl (hO.fsl 2 rfl) hs_42) rfl ?_
   obtain ⟨v_43, ha_45, he_44⟩ := sl_row (hO.fsl 2 rfl) hs_42
   replace hO := Sl.item he_44 hO
   refine hq_v (v_load1 isAgg61 rfl ha_45) rfl ?_
   have hln_46 := Sl.cap (hO.fsl 0 rfl)
   refine hq_v (v_lenL rfl underlying61 rfl (hO.fsl 0 rfl)) rfl (hq_v (v_move rfl) rfl (hq_nil (thenQ_n (hw_sub _ (a_c 0 rfl (a_c 6 rfl (a_c 8 rfl (a_c 95 rfl (a_c 96 rfl (a_c 97 rfl a_n)))))) (hw_block ?_)))))
   obtain ⟨I_47, h, hI_49⟩ := h
   refine hw_lp (fun n' g' H' => ∃ (k : Nat) (Z' : Nat → Prop), n' = (f.ends.getD ((((f.rows.getD i.toNat default).it).at').1).toNat default).length - k ∧ g' = [(0, ptr b_1 0), (6, ptr b_21 0), (8, str (nWord f.rows i)), (95, v_43), (96, .int .i64 ((f.ends.getD ((((f.rows.getD i.toNat default).it).at').1).toNat default).length : Int)), (97, .int .i64 (k : Int))] ∧ I_47 k ∧ k ≤ (f.ends.getD ((((f.rows.getD i.toNat default).it).at').1).toNat default).length ∧ Own H' Z' (fz fStr.rep v_43 (f.ends.getD ((((f.rows.getD i.toNat default).it).at').1).toNat default) :: box b_21 (fGfun_place.enc ((f.rows.getD i.toNat default).it)) 84 :: fz (Rep.sl fStr.rep) v_10 f.ends :: fz (Rep.sl fGArc.rep) v_8 f.from' :: fz fGArc.rep v_6 f.t.Arcs :: fz fGTip.rep v_4 f.t.Ends :: fz fGTip.rep v_2 f.t.Starts :: inZ Z :: L)) _ _ (a_c 0 rfl (a_c 6 rfl (a_c 8 rfl (a_c 95 rfl (a_c 96 rfl (a_c 97 rfl a_n)))))) ⟨0, _, rfl, rfl, h, by omega, (Own.sel (Ls := [_, _, _, _, _, _, _, _, _]) (L := L) [0, 2, 3, 4, 5, 6, 7, 8] rfl hO)⟩ ?_
   rintro _ _ H_50 ⟨k, Z_51, rfl, rfl, h, hb_52, hO⟩
   replace h := hI_49 k h hb_52
   refine hw_seq (hw_region (hl_v (v_lss rfl rfl) rfl (hl_nil (thenQ_n (hw_seq (hw_cond rfl (fun hc_53 => ?_) (fun hc_53 => ?_)))))))
   ·replace h := ite_t h hc_53
    refine hw_skip (thenQ_n (hw_seq (hw_block (hw_seq (hw_region (hl_v (v_ixL underlying61 sizeOf9 rfl rfl (hO.fsl 0 rfl) (by exact ⟨Int.natCast_nonneg _, of_decide_eq_true hc_53⟩)) rfl (hl_v (v_loadSc isAgg9 rfl (hO.fsl 0 rfl) rfl (by exact ⟨Int.natCast_nonneg _, of_decide_eq_true hc_53⟩) rfl) rfl (hl_v (v_assign rfl) rfl (hl_nil (thenQ_n (hw_seq (hw_quiet Tryz.mixed (by kernel_rfl) (hq_v (v_move rfl) rfl (hq_v (v_nilCheck rfl) rfl (hq_v (v_fieldA underlying60 rfl sizeOf54 rfl) rfl (hq_v (v_load1 isAgg54 rfl (Blk.cell (hb_18 _ _ (Own.tails [_, _, _, _, _, _, _, _] hO)) rfl)) rfl (hq_v (v_fieldA underlying84 rfl sizeOf79 rfl) rfl (hq_v (v_ixA underlying79 sizeOf3 rfl rfl (by decide)) rfl (hq_v (v_load1 isAgg3 rfl (Blk.cell (hO.box 1 rfl) rfl)) rfl ?_)))))))))))))))))))
    obtain ⟨hs_54, h⟩ := h
    refine hq_v (v_ixL underlying54 sizeOf61 rfl rfl (hO.fsl 2 rfl) hs_54) rfl ?_
    obtain ⟨v_55, ha_57, he_56⟩ := sl_row (hO.fsl 2 rfl) hs_54
    replace hO := Sl.item he_56 hO
    refine hq_v (v_load1 isAgg61 rfl ha_57) rfl ?_
    have hln_58 := Sl.cap (hO.fsl 0 rfl)
    refine hq_v (v_lenL rfl underlying61 rfl (hO.fsl 0 rfl)) rfl (hq_v (v_move rfl) rfl (hq_nil (thenQ_n (hw_sub _ (a_c 0 rfl (a_c 6 rfl (a_c 8 rfl (a_c 12 rfl (a_c 95 rfl (a_c 96 rfl (a_c 97 rfl (a_c 109 rfl (a_c 110 rfl (a_c 111 rfl a_n)))))))))) (hw_block ?_)))))
    obtain ⟨I_59, h, hI_61⟩ := h
    refine hw_lp (fun n' g' H' => ∃ (k2 : Nat) (Z' : Nat → Prop), n' = (f.ends.getD ((((f.rows.getD i.toNat default).it).at').2).toNat default).length - k2 ∧ g' = [(0, ptr b_1 0), (6, ptr b_21 0), (8, str (nWord f.rows i)), (12, str ((f.ends.getD ((((f.rows.getD i.toNat default).it).at').1).toNat default).getD k default)), (95, v_43), (96, .int .i64 ((f.ends.getD ((((f.rows.getD i.toNat default).it).at').1).toNat default).length : Int)), (97, .int .i64 (k : Int)), (109, v_55), (110, .int .i64 ((f.ends.getD ((((f.rows.getD i.toNat default).it).at').2).toNat default).length : Int)), (111, .int .i64 (k2 : Int))] ∧ I_59 k2 ∧ k2 ≤ (f.ends.getD ((((f.rows.getD i.toNat default).it).at').2).toNat default).length ∧ Own H' Z' (fz fStr.rep v_55 (f.ends.getD ((((f.rows.getD i.toNat default).it).at').2).toNat default) :: fz fStr.rep v_43 (f.ends.getD ((((f.rows.getD i.toNat default).it).at').1).toNat default) :: box b_21 (fGfun_place.enc ((f.rows.getD i.toNat default).it)) 84 :: fz (Rep.sl fStr.rep) v_10 f.ends :: fz (Rep.sl fGArc.rep) v_8 f.from' :: fz fGArc.rep v_6 f.t.Arcs :: fz fGTip.rep v_4 f.t.Ends :: fz fGTip.rep v_2 f.t.Starts :: inZ Z :: L)) _ _ (a_c 0 rfl (a_c 6 rfl (a_c 8 rfl (a_c 12 rfl (a_c 95 rfl (a_c 96 rfl (a_c 97 rfl (a_c 109 rfl (a_c 110 rfl (a_c 111 rfl a_n)))))))))) ⟨0, _, rfl, rfl, h, by omega, hO⟩ ?_
    rintro _ _ H_62 ⟨k2, Z_63, rfl, rfl, h, hb_64, hO⟩
    replace h := hI_61 k2 h hb_64
    refine hw_seq (hw_region (hl_v (v_lss rfl rfl) rfl (hl_nil (thenQ_n (hw_seq (hw_cond rfl (fun hc_65 => ?_) (fun hc_65 => ?_)))))))
    ·replace h := ite_t h hc_65
     refine hw_skip (thenQ_n (hw_seq (hw_block (hw_seq (hw_region (hl_v (v_ixL underlying61 sizeOf9 rfl rfl (hO.fsl 0 rfl) (by exact ⟨Int.natCast_nonneg _, of_decide_eq_true hc_65⟩)) rfl (hl_v (v_loadSc isAgg9 rfl (hO.fsl 0 rfl) rfl (by exact ⟨Int.natCast_nonneg _, of_decide_eq_true hc_65⟩) rfl) rfl (hl_v (v_assign rfl) rfl (hl_nil (thenQ_n (hw_seq (hw_region (hl_v (v_fieldA underlying84 rfl sizeOf82 rfl) rfl (hl_v (v_fieldA underlying82 rfl sizeOf9 rfl) rfl (hl_v (v_load1 isAgg9 rfl (Blk.cell (hO.box 2 rfl) rfl)) rfl (hl_v (v_move rfl) rfl ?_))))))))))))))))
     obtain ⟨hs_66, h⟩ := h
     refine hl_v (v_addS rfl rfl hs_66) rfl (hl_v (v_fieldA underlying84 rfl sizeOf82 rfl) rfl (hl_v (v_fieldA underlying82 rfl sizeOf9 rfl) rfl (hl_v (v_load1 isAgg9 rfl (Blk.cell (hO.box 2 rfl) rfl)) rfl (hl_v (v_move rfl) rfl ?_))))
     obtain ⟨hs_67, h⟩ := h
     refine hl_v (v_addS rfl rfl hs_67) rfl (hl_v (v_neqS rfl rfl) rfl (hl_nil (thenQ_n (hw_sub _ (a_c 0 rfl (a_c 6 rfl (a_c 8 rfl (a_c 12 rfl (a_c 95 rfl (a_c 96 rfl (a_c 97 rfl (a_c 109 rfl (a_c 110 rfl (a_c 111 rfl (a_c 125 rfl a_n))))))))))) (hw_cond rfl (fun hc_68 => ?_) (fun hc_68 => ?_))))))
     ·replace h := ite_t h hc_68
      refine hw_seq (hw_region (hl_v (v_move rfl) rfl (hl_v (v_assign rfl) rfl (hl_v (v_assign rfl) rfl (hl_nil (thenQ_n (hw_ret (blockQ_r (thenQ_r (thenQ_r (blockQ_r (blockQ_r (thenQ_r (thenQ_r (blockQ_r (thenQ_r (ret_i _ (ra_t rfl (ra_t rfl ra_nil)) ?_)))))))))))))))))
      exact ⟨_, (nWord f.rows i), true, (hO.inz 8 rfl), h, rfl, (Own.sel (Ls := [_, _, _, _, _, _, _, _, _]) (L := L) [] rfl hO)⟩
     ·replace h := ite_f h hc_68
      refine hw_skip (blockQ_n (thenQ_n (hw_region (hl_v (v_add rfl rfl (by have hq := of_decide_eq_true hc_65; have hm := hln_58; constructor <;> omega)) rfl (hl_v (v_move rfl) rfl (hl_nil (thenQ_n ?_)))))))
      exact ⟨_, _, (a_c 0 rfl (a_c 6 rfl (a_c 8 rfl (a_c 12 rfl (a_c 95 rfl (a_c 96 rfl (a_c 97 rfl (a_c 109 rfl (a_c 110 rfl (a_c 111 rfl a_n)))))))))), ⟨k2 + 1, _, rfl, rfl, h, (by have hq := of_decide_eq_true hc_65; omega), hO⟩, (by have hq := of_decide_eq_true hc_65; omega)⟩
    ·replace h := ite_f h hc_65
     refine hw_exit (thenQ_e (thenQ_e (blockQ_hit (blockQ_n (thenQ_n (hw_region (hl_v (v_add rfl rfl (by have hq := of_decide_eq_true hc_53; have hm := hln_46; constructor <;> omega)) rfl (hl_v (v_move rfl) rfl (hl_nil (thenQ_n ?_))))))))))
     exact ⟨_, _, (a_c 0 rfl (a_c 6 rfl (a_c 8 rfl (a_c 95 rfl (a_c 96 rfl (a_c 97 rfl a_n)))))), ⟨k + 1, _, rfl, rfl, h, (by have hq := of_decide_eq_true hc_53; omega), (Own.sel (Ls := [_, _, _, _, _, _, _, _, _]) (L := L) [1, 2, 3, 4, 5, 6, 7, 8] rfl hO)⟩, (by have hq := of_decide_eq_true hc_53; omega)⟩
   ·replace h := ite_f h hc_53
    refine hw_exit (thenQ_e (thenQ_e (blockQ_hit (thenQ_n (hw_seq (hw_region (hl_v (v_assign rfl) rfl (hl_v (v_assign rfl) rfl (hl_nil (thenQ_n (hw_ret (ret_i _ (ra_t rfl (ra_t rfl ra_nil)) ?_))))))))))))
    exact ⟨_, [], false, (hO.inz 7 rfl), h, rfl, (Own.sel (Ls := [_, _, _, _, _, _, _, _]) (L := L) [] rfl hO)⟩
theorem funWrong_spec {a0 : Gfun_finder} {a1 : Int} {v_2 : Value} {v_4 : Value} {v_6 : Value} {v_8 : Value} {v_10 : Value} {v_14 : Value} {b_1 : Nat} {b_12 : Nat} {b_16 : Nat} {L : List As} (hp : FdrOk a0.t a0.from' a0.ends ∧ OnOk a0.t.States a0.on' ∧ RowsFit a0.t.States a0.on' a0.seen a0.rows 500000000000 ∧ 0 ≤ a1 ∧ a1 < a0.rows.length) {H : Heap} {Z : Nat → Prop} (hO : Own H Z (L)) (hf_3 : Fz fGTip.rep L v_2 a0.t.Starts) (hf_5 : Fz fGTip.rep L v_4 a0.t.Ends) (hf_7 : Fz fGArc.rep L v_6 a0.t.Arcs) (hf_9 : Fz (Rep.sl fGArc.rep) L v_8 a0.from') (hf_11 : Fz (Rep.sl fStr.rep) L v_10 a0.ends) (ht_13 : Tb L (aggOf (fTwo fInt)) (aggOf fGfun_tail) b_12 a0.on') (hr_15 : Rd fGfun_box_whittle_fun_place.rep L v_14 a0.rows) (ht_17 : Tb L (aggOf (fTwo fInt)) (Value.int .i64) b_16 a0.seen) (hb_18 : Bx L b_1 [.int .i64 a0.t.States, v_2, v_4, v_6, v_8, v_10, .map (some b_12), v_14, .map (some b_16)] 60) : HC Tryz.prog 30 [ptr b_1 0, .int .i64 a1] H (fun v H' => ∃ (Z' : Nat → Prop) , (∀ b, Z b → Z' b) ∧ v = .tuple #[str ((nWrong a0 a1).1), .bool ((nWrong a0 a1).2)] ∧ Own H' Z' (L)) := by
  refine (funWrong_ok (f := a0) (i := a1) (@funWrong_wp a0 a1 hp) hO hf_3 hf_5 hf_7 hf_9 hf_11 ht_13 hr_15 ht_17 hb_18).mono ?_
  rintro v H' ⟨Z', r0, r1, hz, hq, hv, hO'⟩
  obtain ⟨rfl, rfl⟩ := hq
  exact ⟨Z', hz, hv, hO'⟩
abbrev zz9 := (⟨([] : List UInt8), ([] : List UInt8), ([] : List UInt8)⟩ : Gfun_tail)
theorem funTails1_ok {p : (Int × Int)} {x : Gfun_tail} {c0 : Gfun_finder} {c1 : List (Int × Int)} {v_3 : Value} {v_5 : Value} {v_7 : Value} {v_9 : Value} {v_11 : Value} {v_14 : Value} {v_16 : Value} {b_1 : Nat} {b_2 : Nat} {b_13 : Nat} {b_15 : Nat} {Q : Gfun_finder → (List (Int × Int)) → Prop} {H : Heap} {Z : Nat → Prop} {L : List As} (h : wp_funTails1 p x c0 c1 Q) (hO : Own H Z (box b_1 [ptr b_2 0] 52 :: box b_2 [.int .i64 c0.t.States, v_3, v_5, v_7, v_9, v_11, .map (some b_13), v_14, .map none] 60 :: tbl (aggOf (fTwo fInt)) (aggOf fGfun_tail) b_13 c0.on' :: own fGfun_box_whittle_fun_place 86 v_14 c0.rows :: box b_15 [v_16] 103 :: own (fTwo fInt) 79 v_16 c1 :: L)) (hf_4 : Fz fGTip.rep L v_3 c0.t.Starts) (hf_6 : Fz fGTip.rep L v_5 c0.t.Ends) (hf_8 : Fz fGArc.rep L v_7 c0.t.Arcs) (hf_10 : Fz (Rep.sl fGArc.rep) L v_9 c0.from') (hf_12 : Fz (Rep.sl fStr.rep) L v_11 c0.ends) : HC Tryz.prog 47 [.agg ((fTwo fInt).enc p).toArray, .agg (fGfun_tail.enc x).toArray, ptr b_1 0, ptr b_15 0] H (fun v H' => ∃ (Z' : Nat → Prop) (m0 : Gfun_finder) (m1 : List (Int × Int)) (v_17 : Value) (v_19 : Value) (v_21 : Value) (v_23 : Value) (v_25 : Value) (v_28 : Value) (v_29 : Value) (b_27 : Nat), (∀ b, Z b → Z' b) ∧ Q m0 m1 ∧ v = .tuple #[] ∧ Own H' Z' (box b_1 [ptr b_2 0] 52 :: box b_2 [.int .i64 m0.t.States, v_17, v_19, v_21, v_23, v_25, .map (some b_27), v_28, .map none] 60 :: tbl (aggOf (fTwo fInt)) (aggOf fGfun_tail) b_27 m0.on' :: own fGfun_box_whittle_fun_place 86 v_28 m0.rows :: box b_15 [v_29] 103 :: own (fTwo fInt) 79 v_29 m1 :: fz fGTip.rep v_17 m0.t.Starts :: fz fGTip.rep v_19 m0.t.Ends :: fz fGArc.rep v_21 m0.t.Arcs :: fz (Rep.sl fGArc.rep) v_23 m0.from' :: fz (Rep.sl fStr.rep) v_25 m0.ends :: L)) := by
 replace hO := hO.inZ
 replace hO := Fz.items [_, _, _, _, _, _, _] hf_4 hO
 replace hO := Fz.items [_, _, _, _, _, _, _, _] hf_6 hO
 replace hO := Fz.items [_, _, _, _, _, _, _, _, _] hf_8 hO
 replace hO := Fz.items [_, _, _, _, _, _, _, _, _, _] hf_10 hO
 replace hO := Fz.items [_, _, _, _, _, _, _, _, _, _, _] hf_12 hO
 unfold wp_funTails1 at h
 refine hc_of_hw (N := 29) (rs := []) Tryz.func47 rfl rfl rfl rfl (hw_seq (hw_region (hl_h (o_box (cs := ((fTwo fInt).enc p)) hO rfl rfl) rfl ?_)))
 rintro _ H_30 ⟨b_31, rfl, hO⟩
 refine hl_h (o_box (cs := (fGfun_tail.enc x)) hO rfl rfl) rfl ?_
 rintro _ H_32 ⟨b_33, rfl, hO⟩
 refine hl_nil (thenQ_n (hw_seq (hw_held2 11 (fun H' => ∃ Z' : Nat → Prop, Own H' Z' (box b_33 (fGfun_tail.enc x) 105 :: box b_31 ((fTwo fInt).enc p) 79 :: fz (Rep.sl fStr.rep) v_11 c0.ends :: fz (Rep.sl fGArc.rep) v_9 c0.from' :: fz fGArc.rep v_7 c0.t.Arcs :: fz fGTip.rep v_5 c0.t.Ends :: fz fGTip.rep v_3 c0.t.Starts :: inZ Z :: box b_1 [ptr b_2 0] 52 :: box b_2 [.int .i64 c0.t.States, v_3, v_5, v_7, v_9, v_11, .map (some b_13), v_14, .map none] 60 :: tbl (aggOf (fTwo fInt)) (aggOf fGfun_tail) b_13 c0.on' :: own fGfun_box_whittle_fun_place 86 v_14 c0.rows :: box b_15 [v_16] 103 :: own (fTwo fInt) 79 v_16 c1 :: L)) (.step 0 false (.step 1 false (.step 2 false (.step 3 false (.step 4 false (.step 5 false (.step 6 false (.step 7 false (.step 8 false (.step 9 true (.step 10 true .done))))))))))) (.step 11 true .done) Tryz.mixed (by kernel_rfl) ⟨_, hO⟩ (hd_v rfl (fun H' hS => by obtain ⟨Z', hO⟩ := hS; exact (v_load1 isAgg52 rfl (Blk.cell (hO.box 8 rfl) rfl))) rfl (hd_v rfl (fun _ _ => (v_nilCheck rfl)) rfl (hd_v rfl (fun _ _ => (v_fieldA underlying60 rfl sizeOf55 rfl)) rfl (hd_v rfl (fun H' hS => by obtain ⟨Z', hO⟩ := hS; exact (v_load1 isAgg55 rfl (Blk.cell (hO.box 9 rfl) rfl))) rfl (hd_v rfl (fun H' hS => by obtain ⟨Z', hO⟩ := hS; exact (v_loadA isAgg79 sizeOf79 rfl (Blk.at0 (hO.box 1 rfl)) rfl)) rfl (hd_v rfl (fun H' hS => by obtain ⟨Z', hO⟩ := hS; exact (v_lookup2 (d := zz9) (keyTwo underlying79 underlying3 sizeOf3 isAgg3) rfl underlying55 zeroValue105 rfl rfl (hO.tbl 10 rfl))) rfl ?_)))))))))
 refine hd_v rfl (fun _ _ => (v_move rfl)) rfl (hd_v rfl (fun _ _ => (v_extract rfl rfl)) rfl (hd_v rfl (fun _ _ => (v_extract rfl rfl)) rfl (hd_h (o_alloc (cs := (fGfun_tail.enc zz9)) hO zeroValue105 rfl) (by rintro _ H_34 ⟨b_35, rfl, hO⟩; exact ⟨_, (Own.sel (Ls := [_, _, _, _, _, _, _, _, _, _, _, _, _, _, _]) (L := L) [1, 2, 3, 4, 5, 6, 7, 8, 9, 10, 11, 12, 13, 14] rfl hO)⟩) rfl ?_)))
 rintro _ H_34 ⟨b_35, rfl, hO⟩
 refine hd_s (o_storeA (us := (fGfun_tail.enc ((aget c0.on' p).getD zz9))) hO 0 rfl sizeOf105 rfl rfl rfl rfl (by intro u hu; exact (fGfun_tail).one _ u hu)) (by rintro _ H_36 hO; exact ⟨_, (Own.sel (Ls := [_, _, _, _, _, _, _, _, _, _, _, _, _, _, _]) (L := L) [1, 2, 3, 4, 5, 6, 7, 8, 9, 10, 11, 12, 13, 14] rfl hO)⟩) ?_
 rintro _ H_36 hO
 refine hd_nil (hd_h (OpV.toH (v_assign rfl)) (fun _ _ hR => trivial) rfl ?_)
 rintro vv HH ⟨hvv, hHH⟩
 obtain rfl := hvv.symm
 obtain rfl := hHH.symm
 refine hd_nil (thenQ_n (hw_seq (hw_region (hl_v (v_move rfl) rfl (hl_v (v_not rfl) rfl (hl_nil (thenQ_n (hw_cond rfl (fun hc_37 => ?_) (fun hc_37 => ?_)))))))))
 ·replace h := ite_t h hc_37
  refine hw_seq (hw_held2 6 (fun H' => ∃ Z' : Nat → Prop, Own H' Z' (box b_35 (fGfun_tail.enc ((aget c0.on' p).getD zz9)) 105 :: box b_33 (fGfun_tail.enc x) 105 :: box b_31 ((fTwo fInt).enc p) 79 :: fz (Rep.sl fStr.rep) v_11 c0.ends :: fz (Rep.sl fGArc.rep) v_9 c0.from' :: fz fGArc.rep v_7 c0.t.Arcs :: fz fGTip.rep v_5 c0.t.Ends :: fz fGTip.rep v_3 c0.t.Starts :: inZ Z :: box b_1 [ptr b_2 0] 52 :: box b_2 [.int .i64 c0.t.States, v_3, v_5, v_7, v_9, v_11, .map (some b_13), v_14, .map none] 60 :: tbl (aggOf (fTwo fInt)) (aggOf fGfun_tail) b_13 c0.on' :: own fGfun_box_whittle_fun_place 86 v_14 c0.rows :: box b_15 [v_16] 103 :: own (fTwo fInt) 79 v_16 c1 :: L)) (.step 0 false (.step 1 false (.step 2 false (.step 3 false (.step 4 false (.step 5 false .done)))))) (.step 6 true .done) Tryz.mixed (by kernel_rfl) ⟨_, hO⟩ (hd_v rfl (fun H' hS => by obtain ⟨Z', hO⟩ := hS; exact (v_load1 isAgg52 rfl (Blk.cell (hO.box 9 rfl) rfl))) rfl (hd_v rfl (fun _ _ => (v_nilCheck rfl)) rfl (hd_v rfl (fun _ _ => (v_fieldA underlying60 rfl sizeOf55 rfl)) rfl (hd_v rfl (fun H' hS => by obtain ⟨Z', hO⟩ := hS; exact (v_load1 isAgg55 rfl (Blk.cell (hO.box 10 rfl) rfl))) rfl (hd_v rfl (fun H' hS => by obtain ⟨Z', hO⟩ := hS; exact (v_loadA isAgg79 sizeOf79 rfl (Blk.at0 (hO.box 2 rfl)) rfl)) rfl (hd_v rfl (fun H' hS => by obtain ⟨Z', hO⟩ := hS; exact (v_loadA isAgg105 sizeOf105 rfl (Blk.at0 (hO.box 1 rfl)) rfl)) rfl (hd_nil (hd_s (o_mapUpdate (k := p) (v := x) hO 11 rfl (keyTwo underlying79 underlying3 sizeOf3 isAgg3) rfl underlying55 rfl rfl rfl) (fun _ _ _ => trivial) ?_)))))))))
  rintro _ H_38 hO
  refine hd_nil (thenQ_n (hw_region (hl_v (v_load1 isAgg103 rfl (Blk.cell (hO.box 13 rfl) rfl)) rfl (hl_v (v_loadA isAgg79 sizeOf79 rfl (Blk.at0 (hO.box 2 rfl)) rfl) rfl (hl_h (o_lit (g := (fTwo fInt)) (l := [p]) (xs := [.tmp 26]) hO underlying103 sizeOf79 zeroValue79 rfl (evs_cons rfl evs_nil) rfl rfl rfl rfl rfl) rfl ?_)))))
  rintro v_40 H_39 hO
  obtain ⟨hs_43, h⟩ := h
  refine hl_h (o_append (l2 := [p]) hO 15 rfl rfl underlying103 type79 rfl rfl rfl rfl rfl rfl rfl (hO.osl 0 rfl) hs_43 (le63 hs_43 rfl)) rfl ?_
  rintro v_42 H_41 hO
  refine hl_s (o_store1 hO 14 rfl sizeOf103 rfl rfl rfl (Sl.one (hO.osl 15 rfl))) ?_
  rintro _ H_44 hO
  replace hO : Own H_44 Z (own (fTwo fInt) 79 v_40 [p] :: box b_35 (fGfun_tail.enc ((aget c0.on' p).getD zz9)) 105 :: box b_33 (fGfun_tail.enc x) 105 :: box b_31 ((fTwo fInt).enc p) 79 :: fz (Rep.sl fStr.rep) v_11 c0.ends :: fz (Rep.sl fGArc.rep) v_9 c0.from' :: fz fGArc.rep v_7 c0.t.Arcs :: fz fGTip.rep v_5 c0.t.Ends :: fz fGTip.rep v_3 c0.t.Starts :: inZ Z :: box b_1 [ptr b_2 0] 52 :: box b_2 [.int .i64 c0.t.States, v_3, v_5, v_7, v_9, v_11, .map (some b_13), v_14, .map none] 60 :: tbl (aggOf (fTwo fInt)) (aggOf fGfun_tail) b_13 (aput c0.on' p x) :: own fGfun_box_whittle_fun_place 86 v_14 c0.rows :: box b_15 [v_42] 103 :: own (fTwo fInt) 79 v_42 (c1 ++ [p]) :: L) := hO
  refine hl_nil (ret_n _ ra_nil ?_)
  exact ⟨_, (⟨c0.t, c0.from', c0.ends, (aput c0.on' p x), c0.rows, []⟩ : Gfun_finder), (c1 ++ [p]), v_3, v_5, v_7, v_9, v_11, v_14, v_42, b_13, (hO.inz 9 rfl), h, rfl, (Own.sel (Ls := [_, _, _, _, _, _, _, _, _, _, _, _, _, _, _, _]) (L := L) [10, 11, 12, 13, 14, 15, 8, 7, 6, 5, 4] rfl hO)⟩
 ·replace h := ite_f h hc_37
  refine hw_skip (ret_n _ ra_nil ?_)
  exact ⟨_, (⟨c0.t, c0.from', c0.ends, c0.on', c0.rows, []⟩ : Gfun_finder), c1, v_3, v_5, v_7, v_9, v_11, v_14, v_16, b_13, (hO.inz 8 rfl), h, rfl, (Own.sel (Ls := [_, _, _, _, _, _, _, _, _, _, _, _, _, _, _]) (L := L) [9, 10, 11, 12, 13, 14, 7, 6, 5, 4, 3] rfl hO)⟩
theorem funTails1_spec {a0 : (Int × Int)} {a1 : Gfun_tail} {a2 : Gfun_finder} {a3 : List (Int × Int)} {v_3 : Value} {v_5 : Value} {v_7 : Value} {v_9 : Value} {v_11 : Value} {v_14 : Value} {v_16 : Value} {b_1 : Nat} {b_2 : Nat} {b_13 : Nat} {b_15 : Nat} {L : List As} (hp : a2.seen = [] ∧ a3.length ≤ 1000000) {H : Heap} {Z : Nat → Prop} (hO : Own H Z (box b_1 [ptr b_2 0] 52 :: box b_2 [.int .i64 a2.t.States, v_3, v_5, v_7, v_9, v_11, .map (some b_13), v_14, .map none] 60 :: tbl (aggOf (fTwo fInt)) (aggOf fGfun_tail) b_13 a2.on' :: own fGfun_box_whittle_fun_place 86 v_14 a2.rows :: box b_15 [v_16] 103 :: own (fTwo fInt) 79 v_16 a3 :: L)) (hf_4 : Fz fGTip.rep L v_3 a2.t.Starts) (hf_6 : Fz fGTip.rep L v_5 a2.t.Ends) (hf_8 : Fz fGArc.rep L v_7 a2.t.Arcs) (hf_10 : Fz (Rep.sl fGArc.rep) L v_9 a2.from') (hf_12 : Fz (Rep.sl fStr.rep) L v_11 a2.ends) : HC Tryz.prog 47 [.agg ((fTwo fInt).enc a0).toArray, .agg (fGfun_tail.enc a1).toArray, ptr b_1 0, ptr b_15 0] H (fun v H' => ∃ (Z' : Nat → Prop) (v_17 : Value) (v_19 : Value) (v_21 : Value) (v_23 : Value) (v_25 : Value) (v_28 : Value) (v_29 : Value) (b_27 : Nat), (∀ b, Z b → Z' b) ∧ v = .tuple #[] ∧ Own H' Z' (box b_1 [ptr b_2 0] 52 :: box b_2 [.int .i64 ((nPut a0 a1 a2 a3).1).t.States, v_17, v_19, v_21, v_23, v_25, .map (some b_27), v_28, .map none] 60 :: tbl (aggOf (fTwo fInt)) (aggOf fGfun_tail) b_27 ((nPut a0 a1 a2 a3).1).on' :: own fGfun_box_whittle_fun_place 86 v_28 ((nPut a0 a1 a2 a3).1).rows :: box b_15 [v_29] 103 :: own (fTwo fInt) 79 v_29 ((nPut a0 a1 a2 a3).2) :: fz fGTip.rep v_17 ((nPut a0 a1 a2 a3).1).t.Starts :: fz fGTip.rep v_19 ((nPut a0 a1 a2 a3).1).t.Ends :: fz fGArc.rep v_21 ((nPut a0 a1 a2 a3).1).t.Arcs :: fz (Rep.sl fGArc.rep) v_23 ((nPut a0 a1 a2 a3).1).from' :: fz (Rep.sl fStr.rep) v_25 ((nPut a0 a1 a2 a3).1).ends :: L)) := by
  refine (funTails1_ok (p := a0) (x := a1) (c0 := a2) (c1 := a3) (@funTails1_wp a0 a1 a2 a3 hp) hO hf_4 hf_6 hf_8 hf_10 hf_12).mono ?_
  rintro v H' ⟨Z', m0, m1, v_17, v_19, v_21, v_23, v_25, v_28, v_29, b_27, hz, hq, hv, hO'⟩
  obtain ⟨rfl, rfl⟩ := hq
  exact ⟨Z', v_17, v_19, v_21, v_23, v_25, v_28, v_29, b_27, hz, hv, hO'⟩
end
section
open Go.Proofs
open Tryz
def funTails_25_0_3 : Sch := .done
def funTails_25_0_4 : Sch := (.more [] 8 (.step 11 false (.step 20 true (.step 23 false (.step 24 false (.step 25 true funTails_25_0_3))))) (.last [8] 20 (.step 23 false (.step 8 true (.step 11 false (.step 24 false (.step 25 true funTails_25_0_3)))))))
def funTails_25_0_1 : Sch := (.more [] 8 (.step 11 false (.step 14 true (.step 17 false (.step 20 true (.step 23 false (.step 24 false (.step 25 true funTails_25_0_3))))))) (.last [8] 14 (.step 17 false funTails_25_0_4)))
def funTails_25_0_2 : Sch := (.more [] 7 funTails_25_0_4 (.last [7] 20 (.step 23 false (.step 7 true (.step 8 true (.step 11 false (.step 24 false (.step 25 true funTails_25_0_3))))))))
def funTails_25_0_0 : Sch := (.more [] 7 funTails_25_0_1 (.last [7] 14 (.step 17 false funTails_25_0_2)))
abbrev zz10 (f4 : Gfun_finder) (k3 : Nat) (f5 : Gfun_finder) (k4 : Nat) (f6 : Gfun_finder) (wait5 : List (Int × Int)) (i : Int) := (⟨([((BSet.band ((f4.t.Arcs.getD k3 default).Set) ((f5.t.Arcs.getD k4 default).Set)).bytes.getD 0 0)] ++ ((aget f6.on' (wait5.getD i.toNat default)).getD (⟨([] : List UInt8), ([] : List UInt8), ([] : List UInt8)⟩ : Gfun_tail)).w), ((fOutB (f4.t.Arcs.getD k3 default) ((BSet.band ((f4.t.Arcs.getD k3 default).Set) ((f5.t.Arcs.getD k4 default).Set)).bytes.getD 0 0)) ++ ((aget f6.on' (wait5.getD i.toNat default)).getD (⟨([] : List UInt8), ([] : List UInt8), ([] : List UInt8)⟩ : Gfun_tail)).a), ((fOutB (f5.t.Arcs.getD k4 default) ((BSet.band ((f4.t.Arcs.getD k3 default).Set) ((f5.t.Arcs.getD k4 default).Set)).bytes.getD 0 0)) ++ ((aget f6.on' (wait5.getD i.toNat default)).getD (⟨([] : List UInt8), ([] : List UInt8), ([] : List UInt8)⟩ : Gfun_tail)).b)⟩ : Gfun_tail)
abbrev zz11 (f4 : Gfun_finder) (k3 : Nat) (f5 : Gfun_finder) (k4 : Nat) := ((BSet.band ((f4.t.Arcs.getD k3 default).Set) ((f5.t.Arcs.getD k4 default).Set)).bytes.getD 0 0)
abbrev zz12 (f4 : Gfun_finder) (k3 : Nat) (f5 : Gfun_finder) (k4 : Nat) (f6 : Gfun_finder) (wait5 : List (Int × Int)) (i : Int) := (nPut ((f4.t.Arcs.getD k3 default).From, (f5.t.Arcs.getD k4 default).From) (zz10 f4 k3 f5 k4 f6 wait5 i) (⟨f6.t, f6.from', f6.ends, f6.on', f6.rows, []⟩ : Gfun_finder) wait5)
abbrev zz13 (f6 : Gfun_finder) (wait5 : List (Int × Int)) (i : Int) := ((aget f6.on' (wait5.getD i.toNat default)).getD (⟨([] : List UInt8), ([] : List UInt8), ([] : List UInt8)⟩ : Gfun_tail))
abbrev zz14 (f : Gfun_finder) (k : Nat) (f2 : Gfun_finder) (k2 : Nat) (f3 : Gfun_finder) (wait2 : List (Int × Int)) := (nPut ((f.t.Ends.getD k default).State, (f2.t.Ends.getD k2 default).State) (⟨[], (f.t.Ends.getD k default).Out, (f2.t.Ends.getD k2 default).Out⟩ : Gfun_tail) (⟨f3.t, f3.from', f3.ends, f3.on', f3.rows, []⟩ : Gfun_finder) wait2)
abbrev zz15 (f4 : Gfun_finder) (k3 : Nat) := (f4.t.Arcs.getD k3 default)
abbrev zz16 (f5 : Gfun_finder) (k4 : Nat) := (f5.t.Arcs.getD k4 default)
abbrev zz17 (f6 : Gfun_finder) := (⟨f6.t, f6.from', f6.ends, f6.on', f6.rows, []⟩ : Gfun_finder)
abbrev zz18 (f4 : Gfun_finder) (k3 : Nat) (f5 : Gfun_finder) (k4 : Nat) := ((zz11 f4 k3 f5 k4).toNat : Int)
theorem funTails_ok {f : Gfun_finder} {v_2 : Value} {v_4 : Value} {v_6 : Value} {v_8 : Value} {v_10 : Value} {v_12 : Value} {b_1 : Nat} {Q : Gfun_finder → Prop} {H : Heap} {Z : Nat → Prop} {L : List As} (h : wp_funTails f Q) (hO : Own H Z (box b_1 [.int .i64 f.t.States, v_2, v_4, v_6, v_8, v_10, .map none, v_12, .map none] 60 :: own fGfun_box_whittle_fun_place 86 v_12 f.rows :: L)) (hf_3 : Fz fGTip.rep L v_2 f.t.Starts) (hf_5 : Fz fGTip.rep L v_4 f.t.Ends) (hf_7 : Fz fGArc.rep L v_6 f.t.Arcs) (hf_9 : Fz (Rep.sl fGArc.rep) L v_8 f.from') (hf_11 : Fz (Rep.sl fStr.rep) L v_10 f.ends) : HC Tryz.prog 28 [ptr b_1 0] H (fun v H' => ∃ (Z' : Nat → Prop) (m0 : Gfun_finder) (v_13 : Value) (v_15 : Value) (v_17 : Value) (v_19 : Value) (v_21 : Value) (v_24 : Value) (b_23 : Nat), (∀ b, Z b → Z' b) ∧ Q m0 ∧ v = .tuple #[] ∧ Own H' Z' (box b_1 [.int .i64 m0.t.States, v_13, v_15, v_17, v_19, v_21, .map (some b_23), v_24, .map none] 60 :: tbl (aggOf (fTwo fInt)) (aggOf fGfun_tail) b_23 m0.on' :: own fGfun_box_whittle_fun_place 86 v_24 m0.rows :: fz fGTip.rep v_13 m0.t.Starts :: fz fGTip.rep v_15 m0.t.Ends :: fz fGArc.rep v_17 m0.t.Arcs :: fz (Rep.sl fGArc.rep) v_19 m0.from' :: fz (Rep.sl fStr.rep) v_21 m0.ends :: L)) := by
 replace hO := hO.inZ
 replace hO := Fz.items [_, _, _] hf_3 hO
 replace hO := Fz.items [_, _, _, _] hf_5 hO
 replace hO := Fz.items [_, _, _, _, _] hf_7 hO
 replace hO := Fz.items [_, _, _, _, _, _] hf_9 hO
 replace hO := Fz.items [_, _, _, _, _, _, _] hf_11 hO
 unfold wp_funTails at h
 refine hc_of_hw (N := 148) (rs := []) Tryz.func28 rfl rfl rfl rfl (hw_seq (hw_region (hl_h (o_box (cs := [ptr b_1 0]) hO rfl rfl) rfl ?_)))
 rintro _ H_25 ⟨b_26, rfl, hO⟩
 refine hl_nil (thenQ_n (hw_seq (hw_region (hl_v (v_load1 isAgg52 rfl (Blk.cell (hO.box 0 rfl) rfl)) rfl (hl_h (o_makeMap (ke := (aggOf (fTwo fInt))) (ve := (aggOf fGfun_tail)) hO) rfl ?_)))))
 rintro _ H_27 ⟨b_28, rfl, hO⟩
 refine hl_v (v_nilCheck rfl) rfl (hl_v (v_fieldA underlying60 rfl sizeOf55 rfl) rfl (hl_s (o_store1 hO 8 rfl sizeOf55 rfl rfl rfl rfl) ?_))
 rintro _ H_29 hO
 refine hl_nil (thenQ_n (hw_seq (hw_region (hl_h (o_alloc (cs := [.slice none 0 0]) hO zeroValue103 rfl) rfl ?_))))
 rintro _ H_30 ⟨b_31, rfl, hO⟩
 refine hl_nil (thenQ_n (hw_seq (hw_region (hl_v (v_makeFunc (us := []) (vs := [_, _]) rfl rfl) rfl (hl_v (v_assign rfl) rfl (hl_nil (thenQ_n (hw_seq (hw_seq (hw_region (hl_v (v_load1 isAgg52 rfl (Blk.cell (hO.box 2 rfl) rfl)) rfl (hl_v (v_nilCheck rfl) rfl (hl_v (v_fieldA underlying60 rfl sizeOf25 rfl) rfl (hl_v (v_fieldA underlying25 rfl sizeOf22 rfl) rfl (hl_v (v_load1 isAgg22 rfl (Blk.cell (hO.box 9 rfl) rfl)) rfl ?_)))))))))))))))
 have hln_32 := Sl.cap (hO.fsl 6 rfl)
 refine hl_v (v_lenL rfl underlying22 rfl (hO.fsl 6 rfl)) rfl (hl_v (v_move rfl) rfl (hl_nil (thenQ_n (hw_sub _ (a_c 1 rfl (a_c 2 rfl (a_c 3 rfl (a_c 25 rfl (a_c 26 rfl (a_c 27 rfl a_n)))))) (hw_block ?_)))))
 obtain ⟨I_41, h, hI_43⟩ := h
 replace hO := hO.nil (fTwo fInt) 79
 refine hw_lp (fun n' g' H' => ∃ (f2 : Gfun_finder) (wait : List (Int × Int)) (k : Nat) (v_33 : Value) (v_34 : Value) (v_35 : Value) (v_36 : Value) (v_37 : Value) (b_38 : Nat) (v_39 : Value) (v_40 : Value) (Z' : Nat → Prop), n' = f.t.Ends.length - k ∧ g' = [(1, ptr b_26 0), (2, ptr b_31 0), (3, .func (.func 47) #[] #[ptr b_26 0, ptr b_31 0]), (25, v_4), (26, .int .i64 (f.t.Ends.length : Int)), (27, .int .i64 (k : Int))] ∧ I_41 f2 wait k ∧ k ≤ f.t.Ends.length ∧ Own H' Z' (own (fTwo fInt) 79 v_40 wait :: fz (Rep.sl fStr.rep) v_37 f2.ends :: fz (Rep.sl fGArc.rep) v_36 f2.from' :: fz fGArc.rep v_35 f2.t.Arcs :: fz fGTip.rep v_34 f2.t.Ends :: fz fGTip.rep v_33 f2.t.Starts :: box b_31 [v_40] 103 :: tbl (aggOf (fTwo fInt)) (aggOf fGfun_tail) b_38 f2.on' :: box b_26 [ptr b_1 0] 52 :: fz fGTip.rep v_4 f.t.Ends :: inZ Z :: box b_1 [.int .i64 f2.t.States, v_33, v_34, v_35, v_36, v_37, .map (some b_38), v_39, .map none] 60 :: own fGfun_box_whittle_fun_place 86 v_39 f2.rows :: L)) _ _ (a_c 1 rfl (a_c 2 rfl (a_c 3 rfl (a_c 25 rfl (a_c 26 rfl (a_c 27 rfl a_n)))))) ⟨(⟨f.t, f.from', f.ends, [], f.rows, []⟩ : Gfun_finder), [], 0, v_2, v_4, v_6, v_8, v_10, b_28, v_12, .slice none 0 0, _, rfl, rfl, h, by omega, (Own.sel (Ls := [_, _, _, _, _, _, _, _, _, _, _, _, _]) (L := L) [1, 5, 6, 7, 8, 9, 2, 3, 4, 0, 10, 11, 12] rfl ((Fz.of (i := 7) rfl).item hO))⟩ ?_
 rintro _ _ H_44 ⟨f2, wait, k, v_33, v_34, v_35, v_36, v_37, b_38, v_39, v_40, Z_45, rfl, rfl, h, hb_46, hO⟩
 replace h := hI_43 f2 wait k h hb_46
 refine hw_seq (hw_region (hl_v (v_lss rfl rfl) rfl (hl_nil (thenQ_n (hw_seq (hw_cond rfl (fun hc_47 => ?_) (fun hc_47 => ?_)))))))
 ·replace h := ite_t h hc_47
  refine hw_skip (thenQ_n (hw_seq (hw_block (hw_seq (hw_region (hl_v (v_ixL underlying22 sizeOf50 rfl rfl (hO.fsl 9 rfl) (by exact ⟨Int.natCast_nonneg _, of_decide_eq_true hc_47⟩)) rfl (hl_v (v_loadFl isAgg50 sizeOf50 rfl (hO.fsl 9 rfl) rfl (by exact ⟨Int.natCast_nonneg _, of_decide_eq_true hc_47⟩)) rfl (hl_h (o_alloc (cs := (fGTip.enc (⟨(0 : Int), ([] : List UInt8)⟩ : GTip))) hO zeroValue50 rfl) rfl ?_))))))))
  rintro _ H_48 ⟨b_49, rfl, hO⟩
  refine hl_s (o_storeA (us := (fGTip.enc (f.t.Ends.getD k default))) hO 0 rfl sizeOf50 rfl rfl rfl rfl (by intro u hu; exact (fGTip).one _ u hu)) ?_
  rintro _ H_50 hO
  refine hl_nil (thenQ_n (hw_seq (hw_region (hl_v (v_load1 isAgg52 rfl (Blk.cell (hO.box 9 rfl) rfl)) rfl (hl_v (v_nilCheck rfl) rfl (hl_v (v_fieldA underlying60 rfl sizeOf25 rfl) rfl (hl_v (v_fieldA underlying25 rfl sizeOf22 rfl) rfl (hl_v (v_load1 isAgg22 rfl (Blk.cell (hO.box 12 rfl) rfl)) rfl ?_))))))))
  have hln_51 := Sl.cap (hO.fsl 5 rfl)
  refine hl_v (v_lenL rfl underlying22 rfl (hO.fsl 5 rfl)) rfl (hl_v (v_move rfl) rfl (hl_nil (thenQ_n (hw_sub _ (a_c 1 rfl (a_c 2 rfl (a_c 3 rfl (a_c 5 rfl (a_c 25 rfl (a_c 26 rfl (a_c 27 rfl (a_c 35 rfl (a_c 36 rfl (a_c 37 rfl a_n)))))))))) (hw_block ?_)))))
  obtain ⟨I_60, h, hI_62⟩ := h
  refine hw_lp (fun n' g' H' => ∃ (f3 : Gfun_finder) (wait2 : List (Int × Int)) (k2 : Nat) (v_52 : Value) (v_53 : Value) (v_54 : Value) (v_55 : Value) (v_56 : Value) (b_57 : Nat) (v_58 : Value) (v_59 : Value) (Z' : Nat → Prop), n' = f2.t.Ends.length - k2 ∧ g' = [(1, ptr b_26 0), (2, ptr b_31 0), (3, .func (.func 47) #[] #[ptr b_26 0, ptr b_31 0]), (5, ptr b_49 0), (25, v_4), (26, .int .i64 (f.t.Ends.length : Int)), (27, .int .i64 (k : Int)), (35, v_34), (36, .int .i64 (f2.t.Ends.length : Int)), (37, .int .i64 (k2 : Int))] ∧ I_60 f3 wait2 k2 ∧ k2 ≤ f2.t.Ends.length ∧ Own H' Z' (fz (Rep.sl fStr.rep) v_56 f3.ends :: fz (Rep.sl fGArc.rep) v_55 f3.from' :: fz fGArc.rep v_54 f3.t.Arcs :: fz fGTip.rep v_53 f3.t.Ends :: fz fGTip.rep v_52 f3.t.Starts :: box b_49 (fGTip.enc (f.t.Ends.getD k default)) 50 :: own (fTwo fInt) 79 v_59 wait2 :: fz fGTip.rep v_34 f2.t.Ends :: box b_31 [v_59] 103 :: tbl (aggOf (fTwo fInt)) (aggOf fGfun_tail) b_57 f3.on' :: box b_26 [ptr b_1 0] 52 :: fz fGTip.rep v_4 f.t.Ends :: inZ Z :: box b_1 [.int .i64 f3.t.States, v_52, v_53, v_54, v_55, v_56, .map (some b_57), v_58, .map none] 60 :: own fGfun_box_whittle_fun_place 86 v_58 f3.rows :: L)) _ _ (a_c 1 rfl (a_c 2 rfl (a_c 3 rfl (a_c 5 rfl (a_c 25 rfl (a_c 26 rfl (a_c 27 rfl (a_c 35 rfl (a_c 36 rfl (a_c 37 rfl a_n)))))))))) ⟨(⟨f2.t, f2.from', f2.ends, f2.on', f2.rows, []⟩ : Gfun_finder), wait, 0, v_33, v_34, v_35, v_36, v_37, b_38, v_39, v_40, _, rfl, rfl, h, by omega, (Own.sel (Ls := [_, _, _, _, _, _, _, _, _, _, _, _, _, _, _]) (L := L) [3, 4, 5, 6, 7, 1, 2, 0, 8, 9, 10, 11, 12, 13, 14] rfl ((Fz.of (i := 5) rfl).item hO))⟩ ?_
  rintro _ _ H_63 ⟨f3, wait2, k2, v_52, v_53, v_54, v_55, v_56, b_57, v_58, v_59, Z_64, rfl, rfl, h, hb_65, hO⟩
  replace h := hI_62 f3 wait2 k2 h hb_65
  refine hw_seq (hw_region (hl_v (v_lss rfl rfl) rfl (hl_nil (thenQ_n (hw_seq (hw_cond rfl (fun hc_66 => ?_) (fun hc_66 => ?_)))))))
  ·replace h := ite_t h hc_66
   refine hw_skip (thenQ_n (hw_seq (hw_block (hw_seq (hw_region (hl_v (v_ixL underlying22 sizeOf50 rfl rfl (hO.fsl 7 rfl) (by exact ⟨Int.natCast_nonneg _, of_decide_eq_true hc_66⟩)) rfl (hl_v (v_loadFl isAgg50 sizeOf50 rfl (hO.fsl 7 rfl) rfl (by exact ⟨Int.natCast_nonneg _, of_decide_eq_true hc_66⟩)) rfl (hl_h (o_alloc (cs := (fGTip.enc (⟨(0 : Int), ([] : List UInt8)⟩ : GTip))) hO zeroValue50 rfl) rfl ?_))))))))
   rintro _ H_67 ⟨b_68, rfl, hO⟩
   refine hl_s (o_storeA (us := (fGTip.enc (f2.t.Ends.getD k2 default))) hO 0 rfl sizeOf50 rfl rfl rfl rfl (by intro u hu; exact (fGTip).one _ u hu)) ?_
   rintro _ H_69 hO
   refine hl_nil (thenQ_n (hw_region (hl_v (v_move rfl) rfl (hl_v (v_fieldA underlying50 rfl sizeOf3 rfl) rfl (hl_v (v_load1 isAgg3 rfl (Blk.cell (hO.box 6 rfl) rfl)) rfl (hl_v (v_fieldA underlying50 rfl sizeOf3 rfl) rfl (hl_v (v_load1 isAgg3 rfl (Blk.cell (hO.box 0 rfl) rfl)) rfl (hl_v (v_buildTwo underlying79 zeroValue79 rfl sizeOf3 rfl rfl) rfl (hl_v (v_fieldA underlying50 rfl sizeOf9 rfl) rfl (hl_v (v_load1 isAgg9 rfl (Blk.cell (hO.box 6 rfl) rfl)) rfl (hl_v (v_fieldA underlying50 rfl sizeOf9 rfl) rfl (hl_v (v_load1 isAgg9 rfl (Blk.cell (hO.box 0 rfl) rfl)) rfl (hl_v (v_buildF (cs := (fGfun_tail.enc (⟨[], (f.t.Ends.getD k default).Out, (f2.t.Ends.getD k2 default).Out⟩ : Gfun_tail))) (xs := [_, .tmp 48, .tmp 50]) (is := [0, 1, 2]) rfl (evs_cons (show _ = some (str []) from rfl) (evs_cons rfl (evs_cons rfl evs_nil))) (fun w => by show _ = _; kernel_rfl)) rfl ?_)))))))))))))
   obtain ⟨hs_70, h⟩ := h
   refine hl_h (h_callv (fs := []) (cs := [ptr b_26 0, ptr b_31 0]) call47 rfl (evs_cons rfl (evs_cons rfl evs_nil)) (funTails1_spec (a0 := ((f.t.Ends.getD k default).State, (f2.t.Ends.getD k2 default).State)) (a1 := (⟨[], (f.t.Ends.getD k default).Out, (f2.t.Ends.getD k2 default).Out⟩ : Gfun_tail)) (a2 := (⟨f3.t, f3.from', f3.ends, f3.on', f3.rows, []⟩ : Gfun_finder)) (a3 := wait2) (L := box b_68 (fGTip.enc (f2.t.Ends.getD k2 default)) 50 :: fz (Rep.sl fStr.rep) v_56 f3.ends :: fz (Rep.sl fGArc.rep) v_55 f3.from' :: fz fGArc.rep v_54 f3.t.Arcs :: fz fGTip.rep v_53 f3.t.Ends :: fz fGTip.rep v_52 f3.t.Starts :: box b_49 (fGTip.enc (f.t.Ends.getD k default)) 50 :: fz fGTip.rep v_34 f2.t.Ends :: fz fGTip.rep v_4 f.t.Ends :: inZ Z :: L) hs_70 (Own.sel (Ls := [_, _, _, _, _, _, _, _, _, _, _, _, _, _, _, _]) (L := L) [11, 14, 10, 15, 9, 7, 0, 1, 2, 3, 4, 5, 6, 8, 12, 13] rfl hO) (Fz.of (i := 5) rfl) (Fz.of (i := 4) rfl) (Fz.of (i := 3) rfl) (Fz.of (i := 2) rfl) (Fz.of (i := 1) rfl))) rfl ?_
   rintro _ H_71 ⟨Z_72, v_74, v_76, v_78, v_80, v_82, v_85, v_86, b_84, _, rfl, hO⟩
   refine hl_nil (blockQ_n (thenQ_n (hw_region (hl_v (v_add rfl rfl (by have hq := of_decide_eq_true hc_66; have hm := hln_51; constructor <;> omega)) rfl (hl_v (v_move rfl) rfl (hl_nil (thenQ_n ?_)))))))
   exact ⟨_, _, (a_c 1 rfl (a_c 2 rfl (a_c 3 rfl (a_c 5 rfl (a_c 25 rfl (a_c 26 rfl (a_c 27 rfl (a_c 35 rfl (a_c 36 rfl (a_c 37 rfl a_n)))))))))), ⟨(⟨(((zz14 f k f2 k2 f3 wait2).1).t), ((zz14 f k f2 k2 f3 wait2).1).from', ((zz14 f k f2 k2 f3 wait2).1).ends, ((zz14 f k f2 k2 f3 wait2).1).on', ((zz14 f k f2 k2 f3 wait2).1).rows, []⟩ : Gfun_finder), (zz14 f k f2 k2 f3 wait2).2, k2 + 1, v_74, v_76, v_78, v_80, v_82, b_84, v_85, v_86, _, rfl, rfl, h, (by have hq := of_decide_eq_true hc_66; omega), (Own.sel (Ls := [_, _, _, _, _, _, _, _, _, _, _, _, _, _, _, _, _, _, _, _, _]) (L := L) [10, 9, 8, 7, 6, 17, 5, 18, 4, 2, 0, 19, 20, 1, 3] rfl hO)⟩, (by have hq := of_decide_eq_true hc_66; omega)⟩
  ·replace h := ite_f h hc_66
   refine hw_exit (thenQ_e (thenQ_e (blockQ_hit (blockQ_n (thenQ_n (hw_region (hl_v (v_add rfl rfl (by have hq := of_decide_eq_true hc_47; have hm := hln_32; constructor <;> omega)) rfl (hl_v (v_move rfl) rfl (hl_nil (thenQ_n ?_))))))))))
   exact ⟨_, _, (a_c 1 rfl (a_c 2 rfl (a_c 3 rfl (a_c 25 rfl (a_c 26 rfl (a_c 27 rfl a_n)))))), ⟨(⟨f3.t, f3.from', f3.ends, f3.on', f3.rows, []⟩ : Gfun_finder), wait2, k + 1, v_52, v_53, v_54, v_55, v_56, b_57, v_58, v_59, _, rfl, rfl, h, (by have hq := of_decide_eq_true hc_47; omega), (Own.sel (Ls := [_, _, _, _, _, _, _, _, _, _, _, _, _, _, _]) (L := L) [6, 0, 1, 2, 3, 4, 8, 9, 10, 11, 12, 13, 14] rfl hO)⟩, (by have hq := of_decide_eq_true hc_47; omega)⟩
 ·replace h := ite_f h hc_47
  refine hw_exit (thenQ_e (thenQ_e (blockQ_hit (thenQ_n (hw_seq (hw_region (hl_v (v_assign rfl) rfl (hl_nil (thenQ_n (hw_block ?_))))))))))
  obtain ⟨I_95, μ_96, h, hI_97⟩ := h
  refine hw_lp (fun n' g' H' => ∃ (f4 : Gfun_finder) (wait3 : List (Int × Int)) (i : Int) (v_87 : Value) (v_88 : Value) (v_89 : Value) (v_90 : Value) (v_91 : Value) (b_92 : Nat) (v_93 : Value) (v_94 : Value) (Z' : Nat → Prop), n' = μ_96 f4 wait3 i ∧ g' = [(1, ptr b_26 0), (2, ptr b_31 0), (3, .func (.func 47) #[] #[ptr b_26 0, ptr b_31 0]), (8, .int .i64 i)] ∧ I_95 f4 wait3 i ∧ Own H' Z' (fz (Rep.sl fStr.rep) v_91 f4.ends :: fz (Rep.sl fGArc.rep) v_90 f4.from' :: fz fGArc.rep v_89 f4.t.Arcs :: fz fGTip.rep v_88 f4.t.Ends :: fz fGTip.rep v_87 f4.t.Starts :: own (fTwo fInt) 79 v_94 wait3 :: box b_31 [v_94] 103 :: tbl (aggOf (fTwo fInt)) (aggOf fGfun_tail) b_92 f4.on' :: box b_26 [ptr b_1 0] 52 :: inZ Z :: box b_1 [.int .i64 f4.t.States, v_87, v_88, v_89, v_90, v_91, .map (some b_92), v_93, .map none] 60 :: own fGfun_box_whittle_fun_place 86 v_93 f4.rows :: L)) _ _ (a_c 1 rfl (a_c 2 rfl (a_c 3 rfl (a_c 8 rfl a_n)))) ⟨(⟨f2.t, f2.from', f2.ends, f2.on', f2.rows, []⟩ : Gfun_finder), wait, 0, v_33, v_34, v_35, v_36, v_37, b_38, v_39, v_40, _, rfl, rfl, h, (Own.sel (Ls := [_, _, _, _, _, _, _, _, _, _, _, _, _]) (L := L) [1, 2, 3, 4, 5, 0, 6, 7, 8, 10, 11, 12] rfl hO)⟩ ?_
  rintro _ _ H_98 ⟨f4, wait3, i, v_87, v_88, v_89, v_90, v_91, b_92, v_93, v_94, Z_99, rfl, rfl, h, hO⟩
  replace h := hI_97 f4 wait3 i h
  refine hw_seq (hw_seq (hw_region (hl_v (v_move rfl) rfl (hl_v (v_load1 isAgg103 rfl (Blk.cell (hO.box 6 rfl) rfl)) rfl ?_))))
  have hln_101 := Sl.cap (hO.osl 5 rfl)
  refine hl_v (v_lenL rfl underlying103 rfl (hO.osl 5 rfl)) rfl (hl_v (v_lss rfl rfl) rfl (hl_nil (thenQ_n (hw_cond rfl (fun hc_102 => ?_) (fun hc_102 => ?_)))))
  ·replace h := ite_t h hc_102
   refine hw_skip (thenQ_n (hw_seq (hw_block (hw_seq (hw_region (hl_v (v_load1 isAgg52 rfl (Blk.cell (hO.box 8 rfl) rfl)) rfl (hl_v (v_nilCheck rfl) rfl (hl_v (v_fieldA underlying60 rfl sizeOf25 rfl) rfl (hl_v (v_fieldA underlying25 rfl sizeOf23 rfl) rfl (hl_v (v_load1 isAgg23 rfl (Blk.cell (hO.box 10 rfl) rfl)) rfl ?_))))))))))
   have hln_103 := Sl.cap (hO.fsl 2 rfl)
   refine hl_v (v_lenL rfl underlying23 rfl (hO.fsl 2 rfl)) rfl (hl_v (v_move rfl) rfl (hl_nil (thenQ_n (hw_sub _ (a_c 1 rfl (a_c 2 rfl (a_c 3 rfl (a_c 8 rfl (a_c 65 rfl (a_c 66 rfl (a_c 67 rfl a_n))))))) (hw_block ?_)))))
   obtain ⟨I_112, h, hI_114⟩ := h
   refine hw_lp (fun n' g' H' => ∃ (f5 : Gfun_finder) (wait4 : List (Int × Int)) (k3 : Nat) (v_104 : Value) (v_105 : Value) (v_106 : Value) (v_107 : Value) (v_108 : Value) (b_109 : Nat) (v_110 : Value) (v_111 : Value) (Z' : Nat → Prop), n' = f4.t.Arcs.length - k3 ∧ g' = [(1, ptr b_26 0), (2, ptr b_31 0), (3, .func (.func 47) #[] #[ptr b_26 0, ptr b_31 0]), (8, .int .i64 i), (65, v_89), (66, .int .i64 (f4.t.Arcs.length : Int)), (67, .int .i64 (k3 : Int))] ∧ I_112 f5 wait4 k3 ∧ k3 ≤ f4.t.Arcs.length ∧ Own H' Z' (fz (Rep.sl fStr.rep) v_108 f5.ends :: fz (Rep.sl fGArc.rep) v_107 f5.from' :: fz fGArc.rep v_106 f5.t.Arcs :: fz fGTip.rep v_105 f5.t.Ends :: fz fGTip.rep v_104 f5.t.Starts :: fz fGArc.rep v_89 f4.t.Arcs :: own (fTwo fInt) 79 v_111 wait4 :: box b_31 [v_111] 103 :: tbl (aggOf (fTwo fInt)) (aggOf fGfun_tail) b_109 f5.on' :: box b_26 [ptr b_1 0] 52 :: inZ Z :: box b_1 [.int .i64 f5.t.States, v_104, v_105, v_106, v_107, v_108, .map (some b_109), v_110, .map none] 60 :: own fGfun_box_whittle_fun_place 86 v_110 f5.rows :: L)) _ _ (a_c 1 rfl (a_c 2 rfl (a_c 3 rfl (a_c 8 rfl (a_c 65 rfl (a_c 66 rfl (a_c 67 rfl a_n))))))) ⟨(⟨f4.t, f4.from', f4.ends, f4.on', f4.rows, []⟩ : Gfun_finder), wait3, 0, v_87, v_88, v_89, v_90, v_91, b_92, v_93, v_94, _, rfl, rfl, h, by omega, (Own.sel (Ls := [_, _, _, _, _, _, _, _, _, _, _, _, _]) (L := L) [1, 2, 3, 4, 5, 0, 6, 7, 8, 9, 10, 11, 12] rfl ((Fz.of (i := 2) rfl).item hO))⟩ ?_
   rintro _ _ H_115 ⟨f5, wait4, k3, v_104, v_105, v_106, v_107, v_108, b_109, v_110, v_111, Z_116, rfl, rfl, h, hb_117, hO⟩
   replace h := hI_114 f5 wait4 k3 h hb_117
   refine hw_seq (hw_region (hl_v (v_lss rfl rfl) rfl (hl_nil (thenQ_n (hw_seq (hw_cond rfl (fun hc_118 => ?_) (fun hc_118 => ?_)))))))
   ·replace h := ite_t h hc_118
    refine hw_skip (thenQ_n (hw_seq (hw_block (hw_seq (hw_region (hl_v (v_ixL underlying23 sizeOf39 rfl rfl (hO.fsl 5 rfl) (by exact ⟨Int.natCast_nonneg _, of_decide_eq_true hc_118⟩)) rfl (hl_v (v_loadFl isAgg39 sizeOf39 rfl (hO.fsl 5 rfl) rfl (by exact ⟨Int.natCast_nonneg _, of_decide_eq_true hc_118⟩)) rfl (hl_h (o_alloc (cs := (fGArc.enc (⟨(0 : Int), (0 : Int), BSet.zero, ([] : List UInt8), false⟩ : GArc))) hO zeroValue39 rfl) rfl ?_))))))))
    rintro _ H_119 ⟨b_120, rfl, hO⟩
    refine hl_s (o_storeA (us := (fGArc.enc (zz15 f4 k3))) hO 0 rfl sizeOf39 rfl rfl rfl rfl (by intro u hu; exact (fGArc).one _ u hu)) ?_
    rintro _ H_121 hO
    refine hl_nil (thenQ_n (hw_seq (hw_region (hl_v (v_load1 isAgg52 rfl (Blk.cell (hO.box 10 rfl) rfl)) rfl (hl_v (v_nilCheck rfl) rfl (hl_v (v_fieldA underlying60 rfl sizeOf25 rfl) rfl (hl_v (v_fieldA underlying25 rfl sizeOf23 rfl) rfl (hl_v (v_load1 isAgg23 rfl (Blk.cell (hO.box 12 rfl) rfl)) rfl ?_))))))))
    have hln_122 := Sl.cap (hO.fsl 3 rfl)
    refine hl_v (v_lenL rfl underlying23 rfl (hO.fsl 3 rfl)) rfl (hl_v (v_move rfl) rfl (hl_nil (thenQ_n (hw_sub _ (a_c 1 rfl (a_c 2 rfl (a_c 3 rfl (a_c 8 rfl (a_c 10 rfl (a_c 65 rfl (a_c 66 rfl (a_c 67 rfl (a_c 75 rfl (a_c 76 rfl (a_c 77 rfl a_n))))))))))) (hw_block ?_)))))
    obtain ⟨I_131, h, hI_133⟩ := h
    refine hw_lp (fun n' g' H' => ∃ (f6 : Gfun_finder) (wait5 : List (Int × Int)) (k4 : Nat) (v_123 : Value) (v_124 : Value) (v_125 : Value) (v_126 : Value) (v_127 : Value) (b_128 : Nat) (v_129 : Value) (v_130 : Value) (Z' : Nat → Prop), n' = f5.t.Arcs.length - k4 ∧ g' = [(1, ptr b_26 0), (2, ptr b_31 0), (3, .func (.func 47) #[] #[ptr b_26 0, ptr b_31 0]), (8, .int .i64 i), (10, ptr b_120 0), (65, v_89), (66, .int .i64 (f4.t.Arcs.length : Int)), (67, .int .i64 (k3 : Int)), (75, v_106), (76, .int .i64 (f5.t.Arcs.length : Int)), (77, .int .i64 (k4 : Int))] ∧ I_131 f6 wait5 k4 ∧ k4 ≤ f5.t.Arcs.length ∧ Own H' Z' (fz (Rep.sl fStr.rep) v_127 f6.ends :: fz (Rep.sl fGArc.rep) v_126 f6.from' :: fz fGArc.rep v_125 f6.t.Arcs :: fz fGTip.rep v_124 f6.t.Ends :: fz fGTip.rep v_123 f6.t.Starts :: box b_120 (fGArc.enc (zz15 f4 k3)) 39 :: fz fGArc.rep v_106 f5.t.Arcs :: fz fGArc.rep v_89 f4.t.Arcs :: own (fTwo fInt) 79 v_130 wait5 :: box b_31 [v_130] 103 :: tbl (aggOf (fTwo fInt)) (aggOf fGfun_tail) b_128 f6.on' :: box b_26 [ptr b_1 0] 52 :: inZ Z :: box b_1 [.int .i64 f6.t.States, v_123, v_124, v_125, v_126, v_127, .map (some b_128), v_129, .map none] 60 :: own fGfun_box_whittle_fun_place 86 v_129 f6.rows :: L)) _ _ (a_c 1 rfl (a_c 2 rfl (a_c 3 rfl (a_c 8 rfl (a_c 10 rfl (a_c 65 rfl (a_c 66 rfl (a_c 67 rfl (a_c 75 rfl (a_c 76 rfl (a_c 77 rfl a_n))))))))))) ⟨(⟨f5.t, f5.from', f5.ends, f5.on', f5.rows, []⟩ : Gfun_finder), wait4, 0, v_104, v_105, v_106, v_107, v_108, b_109, v_110, v_111, _, rfl, rfl, h, by omega, (Own.sel (Ls := [_, _, _, _, _, _, _, _, _, _, _, _, _, _, _]) (L := L) [2, 3, 4, 5, 6, 1, 0, 7, 8, 9, 10, 11, 12, 13, 14] rfl ((Fz.of (i := 3) rfl).item hO))⟩ ?_
    rintro _ _ H_134 ⟨f6, wait5, k4, v_123, v_124, v_125, v_126, v_127, b_128, v_129, v_130, Z_135, rfl, rfl, h, hb_136, hO⟩
    replace h := hI_133 f6 wait5 k4 h hb_136
    refine hw_seq (hw_region (hl_v (v_lss rfl rfl) rfl (hl_nil (thenQ_n (hw_seq (hw_cond rfl (fun hc_137 => ?_) (fun hc_137 => ?_)))))))
    ·replace h := ite_t h hc_137
     refine hw_skip (thenQ_n (hw_seq (hw_block (hw_seq (hw_region (hl_v (v_ixL underlying23 sizeOf39 rfl rfl (hO.fsl 6 rfl) (by exact ⟨Int.natCast_nonneg _, of_decide_eq_true hc_137⟩)) rfl (hl_v (v_loadFl isAgg39 sizeOf39 rfl (hO.fsl 6 rfl) rfl (by exact ⟨Int.natCast_nonneg _, of_decide_eq_true hc_137⟩)) rfl (hl_h (o_alloc (cs := (fGArc.enc (⟨(0 : Int), (0 : Int), BSet.zero, ([] : List UInt8), false⟩ : GArc))) hO zeroValue39 rfl) rfl ?_))))))))
     rintro _ H_138 ⟨b_139, rfl, hO⟩
     refine hl_s (o_storeA (us := (fGArc.enc (zz16 f5 k4))) hO 0 rfl sizeOf39 rfl rfl rfl rfl (by intro u hu; exact (fGArc).one _ u hu)) ?_
     rintro _ H_140 hO
     refine hl_nil (thenQ_n (hw_sub _ (a_c 1 rfl (a_c 2 rfl (a_c 3 rfl (a_c 8 rfl (a_c 10 rfl (a_c 12 rfl (a_c 65 rfl (a_c 66 rfl (a_c 67 rfl (a_c 75 rfl (a_c 76 rfl (a_c 77 rfl a_n)))))))))))) (hw_seq (hw_region (hl_v (v_fieldA underlying39 rfl sizeOf37 rfl) rfl (hl_v (v_loadA (cs := (sw ((zz15 f4 k3).Set))) isAgg37 sizeOf37 rfl (Blk.sub (n := 4) (hO.box 6 rfl) rfl) rfl) rfl (hl_v (v_fieldA underlying39 rfl sizeOf37 rfl) rfl (hl_v (v_loadA (cs := (sw ((zz16 f5 k4).Set))) isAgg37 sizeOf37 rfl (Blk.sub (n := 4) (hO.box 0 rfl) rfl) rfl) rfl (hl_h (h_call call49 (evs_cons rfl (evs_cons rfl evs_nil)) (setBoth_spec (a0 := (zz15 f4 k3).Set) (a1 := (zz16 f5 k4).Set) hO)) rfl ?_)))))))))
     rintro _ H_141 ⟨Z_142, _, rfl, hO⟩
     refine hl_h (h_call call48 (evs_cons rfl evs_nil) (setFirst_spec (a0 := (BSet.band ((zz15 f4 k3).Set) ((zz16 f5 k4).Set))) hO)) rfl ?_
     rintro _ H_144 ⟨Z_145, _, rfl, hO⟩
     refine hl_v (v_move rfl) rfl (hl_v (v_extract rfl rfl) rfl (hl_v (v_extract rfl rfl) rfl (hl_v (v_assign rfl) rfl (hl_v (v_assign rfl) rfl (hl_nil (thenQ_n (hw_sub _ (a_c 1 rfl (a_c 2 rfl (a_c 3 rfl (a_c 8 rfl (a_c 10 rfl (a_c 12 rfl (a_c 13 rfl (a_c 14 rfl (a_c 65 rfl (a_c 66 rfl (a_c 67 rfl (a_c 75 rfl (a_c 76 rfl (a_c 77 rfl a_n)))))))))))))) (hw_seq (hw_quiet Tryz.mixed (by kernel_rfl) (hq_v (v_move rfl) rfl (hq_v (v_move rfl) rfl (hq_g rfl rfl (fun hg => (v_fieldA underlying39 rfl sizeOf3 rfl)) rfl (hq_g rfl rfl (fun hg => (v_load1 isAgg3 (gv_ok rfl hg) (Blk.cell (hO.box 6 rfl) rfl))) rfl (hq_g rfl rfl (fun hg => (v_load1 isAgg103 rfl (Blk.cell (hO.box 10 rfl) rfl))) rfl (hq_g rfl rfl (fun hg => (v_move rfl)) rfl ?_)))))))))))))))
     obtain ⟨hs_147, h⟩ := h
     refine hq_g rfl rfl (fun hg => (v_ixL underlying103 sizeOf79 (gv_ok rfl hg) (gv_ok rfl hg) (hO.osl 9 rfl) (hs_147 (gb_bool hg)))) rfl (hq_g rfl rfl (fun hg => (v_ixA underlying79 sizeOf3 (gv_ok rfl hg) rfl (by decide))) rfl ?_)
     obtain ⟨hs_148, h⟩ := h
     refine hq_g rfl rfl (fun hg => (v_loadSub (j := 0) isAgg3 (gv_ok rfl hg) (hO.osl 9 rfl) rfl (hs_148 (gb_bool hg)) rfl)) rfl (hq_g rfl rfl (fun hg => (v_eql (gv_ok rfl hg) (gv_ok rfl hg))) rfl (hq_v (v_and rfl rfl) rfl (hq_v (v_move rfl) rfl (hq_g rfl rfl (fun hg => (v_fieldA underlying39 rfl sizeOf3 rfl)) rfl (hq_g rfl rfl (fun hg => (v_load1 isAgg3 (gv_ok rfl hg) (Blk.cell (hO.box 0 rfl) rfl))) rfl (hq_g rfl rfl (fun hg => (v_load1 isAgg103 rfl (Blk.cell (hO.box 10 rfl) rfl))) rfl (hq_g rfl rfl (fun hg => (v_move rfl)) rfl ?_)))))))
     obtain ⟨hs_149, h⟩ := h
     refine hq_g rfl rfl (fun hg => (v_ixL underlying103 sizeOf79 (gv_ok rfl hg) (gv_ok rfl hg) (hO.osl 9 rfl) (hs_149 (gb_bool hg)))) rfl (hq_g rfl rfl (fun hg => (v_ixA underlying79 sizeOf3 (gv_ok rfl hg) rfl (by decide))) rfl ?_)
     obtain ⟨hs_150, h⟩ := h
     refine hq_g rfl rfl (fun hg => (v_loadSub (j := 1) isAgg3 (gv_ok rfl hg) (hO.osl 9 rfl) rfl (hs_150 (gb_bool hg)) rfl)) rfl (hq_g rfl rfl (fun hg => (v_eql (gv_ok rfl hg) (gv_ok rfl hg))) rfl (hq_v (v_and rfl rfl) rfl (hq_nil (thenQ_n (hw_sub _ (a_c 1 rfl (a_c 2 rfl (a_c 3 rfl (a_c 8 rfl (a_c 10 rfl (a_c 12 rfl (a_c 13 rfl (a_c 65 rfl (a_c 66 rfl (a_c 67 rfl (a_c 75 rfl (a_c 76 rfl (a_c 77 rfl (a_c 110 rfl a_n)))))))))))))) (hw_cond rfl (fun hc_151 => ?_) (fun hc_151 => ?_)))))))
     ·replace h := ite_t h hc_151
      refine hw_seq (hw_held2 10 (fun H' => ∃ Z' : Nat → Prop, Own H' Z' (box b_139 (fGArc.enc (zz16 f5 k4)) 39 :: fz (Rep.sl fStr.rep) v_127 f6.ends :: fz (Rep.sl fGArc.rep) v_126 f6.from' :: fz fGArc.rep v_125 f6.t.Arcs :: fz fGTip.rep v_124 f6.t.Ends :: fz fGTip.rep v_123 f6.t.Starts :: box b_120 (fGArc.enc (zz15 f4 k3)) 39 :: fz fGArc.rep v_106 f5.t.Arcs :: fz fGArc.rep v_89 f4.t.Arcs :: own (fTwo fInt) 79 v_130 wait5 :: box b_31 [v_130] 103 :: tbl (aggOf (fTwo fInt)) (aggOf fGfun_tail) b_128 f6.on' :: box b_26 [ptr b_1 0] 52 :: inZ Z :: box b_1 [.int .i64 f6.t.States, v_123, v_124, v_125, v_126, v_127, .map (some b_128), v_129, .map none] 60 :: own fGfun_box_whittle_fun_place 86 v_129 f6.rows :: L)) (.step 0 false (.step 1 false (.step 2 false (.step 3 false (.step 4 false (.step 5 false (.step 6 false (.step 7 false (.step 8 false (.step 9 true .done)))))))))) (.step 10 true .done) Tryz.mixed (by kernel_rfl) ⟨_, hO⟩ (hd_v rfl (fun H' hS => by obtain ⟨Z', hO⟩ := hS; exact (v_load1 isAgg52 rfl (Blk.cell (hO.box 12 rfl) rfl))) rfl (hd_v rfl (fun _ _ => (v_nilCheck rfl)) rfl (hd_v rfl (fun _ _ => (v_fieldA underlying60 rfl sizeOf55 rfl)) rfl (hd_v rfl (fun H' hS => by obtain ⟨Z', hO⟩ := hS; exact (v_load1 isAgg55 rfl (Blk.cell (hO.box 14 rfl) rfl))) rfl (hd_v rfl (fun H' hS => by obtain ⟨Z', hO⟩ := hS; exact (v_load1 isAgg103 rfl (Blk.cell (hO.box 10 rfl) rfl))) rfl (hd_v rfl (fun _ _ => (v_move rfl)) rfl ?_)))))))
      obtain ⟨hs_152, h⟩ := h
      refine hd_v rfl (fun H' hS => by obtain ⟨Z', hO⟩ := hS; exact (v_ixL underlying103 sizeOf79 rfl rfl (hO.osl 9 rfl) hs_152)) rfl (hd_v rfl (fun H' hS => by obtain ⟨Z', hO⟩ := hS; exact (v_loadFl isAgg79 sizeOf79 rfl (hO.osl 9 rfl) rfl hs_152)) rfl (hd_v rfl (fun H' hS => by obtain ⟨Z', hO⟩ := hS; exact (v_lookup1 (d := (⟨([] : List UInt8), ([] : List UInt8), ([] : List UInt8)⟩ : Gfun_tail)) (keyTwo underlying79 underlying3 sizeOf3 isAgg3) rfl underlying55 zeroValue105 rfl rfl (hO.tbl 11 rfl))) rfl (hd_h (o_alloc (cs := (fGfun_tail.enc (⟨([] : List UInt8), ([] : List UInt8), ([] : List UInt8)⟩ : Gfun_tail))) hO zeroValue105 rfl) (by rintro _ H_153 ⟨b_154, rfl, hO⟩; exact ⟨_, (Own.sel (Ls := [_, _, _, _, _, _, _, _, _, _, _, _, _, _, _, _, _]) (L := L) [1, 2, 3, 4, 5, 6, 7, 8, 9, 10, 11, 12, 13, 14, 15, 16] rfl hO)⟩) rfl ?_)))
      rintro _ H_153 ⟨b_154, rfl, hO⟩
      refine hd_nil (hd_s (o_storeA (us := (fGfun_tail.enc (zz13 f6 wait5 i))) hO 0 rfl sizeOf105 rfl rfl rfl rfl (by intro u hu; exact (fGfun_tail).one _ u hu)) (fun _ _ _ => trivial) ?_)
      rintro _ H_155 hO
      refine hd_nil (thenQ_n ?_)
      obtain ⟨hs_6156, h⟩ := h
      obtain ⟨hs_6157, h⟩ := h
      obtain ⟨hs_6158, h⟩ := h
      obtain ⟨hs_6159, h⟩ := h
      obtain ⟨hs_6160, h⟩ := h
      obtain ⟨hs_6161, h⟩ := h
      refine hw_hj (fun f' H' => ∃ (v_2157 : Value) (v_4171 : Value) (v_4173 : Value) (v_4175 : Value) (v_4177 : Value) (v_4179 : Value) (b_4181 : Nat) (v_4182 : Value) (v_4183 : Value) (Z' : Nat → Prop), AllIn f' [(1, ptr b_26 0), (2, ptr b_31 0), (3, .func (.func 47) #[] #[ptr b_26 0, ptr b_31 0]), (8, .int .i64 i), (10, ptr b_120 0), (65, v_89), (66, .int .i64 (f4.t.Arcs.length : Int)), (67, .int .i64 (k3 : Int)), (75, v_106), (76, .int .i64 (f5.t.Arcs.length : Int)), (77, .int .i64 (k4 : Int))] ∧ Own H' Z' (box b_26 [ptr b_1 0] 52 :: box b_1 [.int .i64 ((((zz12 f4 k3 f5 k4 f6 wait5 i).1).t).States), v_4171, v_4173, v_4175, v_4177, v_4179, .map (some b_4181), v_4182, .map none] 60 :: tbl (aggOf (fTwo fInt)) (aggOf fGfun_tail) b_4181 (((zz12 f4 k3 f5 k4 f6 wait5 i).1).on') :: own fGfun_box_whittle_fun_place 86 v_4182 (((zz12 f4 k3 f5 k4 f6 wait5 i).1).rows) :: box b_31 [v_4183] 103 :: own (fTwo fInt) 79 v_4183 ((zz12 f4 k3 f5 k4 f6 wait5 i).2) :: fz fGTip.rep v_4171 ((((zz12 f4 k3 f5 k4 f6 wait5 i).1).t).Starts) :: fz fGTip.rep v_4173 ((((zz12 f4 k3 f5 k4 f6 wait5 i).1).t).Ends) :: fz fGArc.rep v_4175 ((((zz12 f4 k3 f5 k4 f6 wait5 i).1).t).Arcs) :: fz (Rep.sl fGArc.rep) v_4177 (((zz12 f4 k3 f5 k4 f6 wait5 i).1).from') :: fz (Rep.sl fStr.rep) v_4179 (((zz12 f4 k3 f5 k4 f6 wait5 i).1).ends) :: own fByte 5 v_2157 [(zz11 f4 k3 f5 k4)] :: box b_154 (fGfun_tail.enc (zz13 f6 wait5 i)) 105 :: box b_139 (fGArc.enc (zz16 f5 k4)) 39 :: fz (Rep.sl fStr.rep) v_127 f6.ends :: fz (Rep.sl fGArc.rep) v_126 f6.from' :: fz fGArc.rep v_125 f6.t.Arcs :: fz fGTip.rep v_124 f6.t.Ends :: fz fGTip.rep v_123 f6.t.Starts :: box b_120 (fGArc.enc (zz15 f4 k3)) 39 :: fz fGArc.rep v_106 f5.t.Arcs :: fz fGArc.rep v_89 f4.t.Arcs :: inZ Z :: L)) ?_ ?_
      ·refine hw_held (fun H' => ∃ Z' : Nat → Prop, Own H' Z' (box b_154 (fGfun_tail.enc (zz13 f6 wait5 i)) 105 :: box b_139 (fGArc.enc (zz16 f5 k4)) 39 :: fz (Rep.sl fStr.rep) v_127 f6.ends :: fz (Rep.sl fGArc.rep) v_126 f6.from' :: fz fGArc.rep v_125 f6.t.Arcs :: fz fGTip.rep v_124 f6.t.Ends :: fz fGTip.rep v_123 f6.t.Starts :: box b_120 (fGArc.enc (zz15 f4 k3)) 39 :: fz fGArc.rep v_106 f5.t.Arcs :: fz fGArc.rep v_89 f4.t.Arcs :: box b_26 [ptr b_1 0] 52 :: inZ Z :: L)) (.step 0 false (.step 1 false (.step 2 false (.step 3 false (.step 4 false (.step 5 false (.step 6 false (.step 9 false (.step 10 false (.step 12 false (.step 13 false (.step 15 false (.step 16 false (.step 18 false (.step 19 false (.step 21 false (.step 22 false funTails_25_0_0))))))))))))))))) Tryz.mixed (by kernel_rfl) ⟨_, (Own.sel (Ls := [_, _, _, _, _, _, _, _, _, _, _, _, _, _, _, _, _]) (L := L) [0, 1, 2, 3, 4, 5, 6, 7, 8, 9, 13, 14] rfl hO)⟩ ?_
       refine hd_abs fun G hG => ?_
       have hfunTails_25_0_3 : ∀ (v_2157 : Value) (v_4171 : Value) (v_4173 : Value) (v_4175 : Value) (v_4177 : Value) (v_4179 : Value) (b_4181 : Nat) (v_4182 : Value) (v_4183 : Value) (Zn : Nat → Prop) (Hn : Heap), Own Hn Zn (box b_26 [ptr b_1 0] 52 :: box b_1 [.int .i64 ((((zz12 f4 k3 f5 k4 f6 wait5 i).1).t).States), v_4171, v_4173, v_4175, v_4177, v_4179, .map (some b_4181), v_4182, .map none] 60 :: tbl (aggOf (fTwo fInt)) (aggOf fGfun_tail) b_4181 (((zz12 f4 k3 f5 k4 f6 wait5 i).1).on') :: own fGfun_box_whittle_fun_place 86 v_4182 (((zz12 f4 k3 f5 k4 f6 wait5 i).1).rows) :: box b_31 [v_4183] 103 :: own (fTwo fInt) 79 v_4183 ((zz12 f4 k3 f5 k4 f6 wait5 i).2) :: fz fGTip.rep v_4171 ((((zz12 f4 k3 f5 k4 f6 wait5 i).1).t).Starts) :: fz fGTip.rep v_4173 ((((zz12 f4 k3 f5 k4 f6 wait5 i).1).t).Ends) :: fz fGArc.rep v_4175 ((((zz12 f4 k3 f5 k4 f6 wait5 i).1).t).Arcs) :: fz (Rep.sl fGArc.rep) v_4177 (((zz12 f4 k3 f5 k4 f6 wait5 i).1).from') :: fz (Rep.sl fStr.rep) v_4179 (((zz12 f4 k3 f5 k4 f6 wait5 i).1).ends) :: own fByte 5 v_2157 [(zz11 f4 k3 f5 k4)] :: box b_154 (fGfun_tail.enc (zz13 f6 wait5 i)) 105 :: box b_139 (fGArc.enc (zz16 f5 k4)) 39 :: fz (Rep.sl fStr.rep) v_127 f6.ends :: fz (Rep.sl fGArc.rep) v_126 f6.from' :: fz fGArc.rep v_125 f6.t.Arcs :: fz fGTip.rep v_124 f6.t.Ends :: fz fGTip.rep v_123 f6.t.Starts :: box b_120 (fGArc.enc (zz15 f4 k3)) 39 :: fz fGArc.rep v_106 f5.t.Arcs :: fz fGArc.rep v_89 f4.t.Arcs :: inZ Z :: L) → G funTails_25_0_3 [(1, ptr b_26 0), (2, ptr b_31 0), (3, .func (.func 47) #[] #[ptr b_26 0, ptr b_31 0]), (8, .int .i64 i), (10, ptr b_120 0), (12, ptr b_139 0), (13, .int .u8 (zz18 f4 k3 f5 k4)), (15, ptr b_154 0), (65, v_89), (66, .int .i64 (f4.t.Arcs.length : Int)), (67, .int .i64 (k3 : Int)), (75, v_106), (76, .int .i64 (f5.t.Arcs.length : Int)), (77, .int .i64 (k4 : Int)), (120, .func (.func 47) #[] #[ptr b_26 0, ptr b_31 0]), (121, ptr b_120 0), (122, .int .i64 ((zz15 f4 k3).From)), (123, ptr b_139 0), (124, .int .i64 ((zz16 f5 k4).From)), (125, .agg ((fTwo fInt).enc ((zz15 f4 k3).From, (zz16 f5 k4).From)).toArray), (126, .int .u8 (zz18 f4 k3 f5 k4)), (127, v_2157), (128, str [(zz11 f4 k3 f5 k4)]), (129, ptr b_154 0), (130, str ((zz13 f6 wait5 i).w)), (131, str ([(zz11 f4 k3 f5 k4)] ++ (zz13 f6 wait5 i).w)), (132, .agg (fGArc.enc (zz15 f4 k3)).toArray), (133, .int .u8 (zz18 f4 k3 f5 k4)), (134, str (fOutB (zz15 f4 k3) (zz11 f4 k3 f5 k4))), (135, ptr b_154 1), (136, str ((zz13 f6 wait5 i).a)), (137, str ((fOutB (zz15 f4 k3) (zz11 f4 k3 f5 k4)) ++ (zz13 f6 wait5 i).a)), (138, .agg (fGArc.enc (zz16 f5 k4)).toArray), (139, .int .u8 (zz18 f4 k3 f5 k4)), (140, str (fOutB (zz16 f5 k4) (zz11 f4 k3 f5 k4))), (141, ptr b_154 2), (142, str ((zz13 f6 wait5 i).b)), (143, str ((fOutB (zz16 f5 k4) (zz11 f4 k3 f5 k4)) ++ (zz13 f6 wait5 i).b)), (144, .agg (fGfun_tail.enc (zz10 f4 k3 f5 k4 f6 wait5 i)).toArray), (145, .tuple #[])] Hn := by
        intro v_2157 v_4171 v_4173 v_4175 v_4177 v_4179 b_4181 v_4182 v_4183 Zn Hn hO
        refine Eq.mpr (hG _ _ _) (hd_nil ?_)
        exact ⟨rfl, v_2157, v_4171, v_4173, v_4175, v_4177, v_4179, b_4181, v_4182, v_4183, _, (a_c 1 rfl (a_c 2 rfl (a_c 3 rfl (a_c 8 rfl (a_c 10 rfl (a_c 65 rfl (a_c 66 rfl (a_c 67 rfl (a_c 75 rfl (a_c 76 rfl (a_c 77 rfl a_n))))))))))), hO⟩
       have hfunTails_25_0_4 : ∀ (v_2157 : Value) (Zn : Nat → Prop) (Hn : Heap), Own Hn Zn (own fByte 5 v_2157 [(zz11 f4 k3 f5 k4)] :: box b_154 (fGfun_tail.enc (zz13 f6 wait5 i)) 105 :: box b_139 (fGArc.enc (zz16 f5 k4)) 39 :: fz (Rep.sl fStr.rep) v_127 f6.ends :: fz (Rep.sl fGArc.rep) v_126 f6.from' :: fz fGArc.rep v_125 f6.t.Arcs :: fz fGTip.rep v_124 f6.t.Ends :: fz fGTip.rep v_123 f6.t.Starts :: box b_120 (fGArc.enc (zz15 f4 k3)) 39 :: fz fGArc.rep v_106 f5.t.Arcs :: fz fGArc.rep v_89 f4.t.Arcs :: own (fTwo fInt) 79 v_130 wait5 :: box b_31 [v_130] 103 :: tbl (aggOf (fTwo fInt)) (aggOf fGfun_tail) b_128 f6.on' :: box b_26 [ptr b_1 0] 52 :: inZ Z :: box b_1 [.int .i64 f6.t.States, v_123, v_124, v_125, v_126, v_127, .map (some b_128), v_129, .map none] 60 :: own fGfun_box_whittle_fun_place 86 v_129 f6.rows :: L) → G funTails_25_0_4 [(1, ptr b_26 0), (2, ptr b_31 0), (3, .func (.func 47) #[] #[ptr b_26 0, ptr b_31 0]), (8, .int .i64 i), (10, ptr b_120 0), (12, ptr b_139 0), (13, .int .u8 (zz18 f4 k3 f5 k4)), (15, ptr b_154 0), (65, v_89), (66, .int .i64 (f4.t.Arcs.length : Int)), (67, .int .i64 (k3 : Int)), (75, v_106), (76, .int .i64 (f5.t.Arcs.length : Int)), (77, .int .i64 (k4 : Int)), (120, .func (.func 47) #[] #[ptr b_26 0, ptr b_31 0]), (121, ptr b_120 0), (122, .int .i64 ((zz15 f4 k3).From)), (123, ptr b_139 0), (124, .int .i64 ((zz16 f5 k4).From)), (125, .agg ((fTwo fInt).enc ((zz15 f4 k3).From, (zz16 f5 k4).From)).toArray), (126, .int .u8 (zz18 f4 k3 f5 k4)), (127, v_2157), (129, ptr b_154 0), (130, str ((zz13 f6 wait5 i).w)), (132, .agg (fGArc.enc (zz15 f4 k3)).toArray), (133, .int .u8 (zz18 f4 k3 f5 k4)), (134, str (fOutB (zz15 f4 k3) (zz11 f4 k3 f5 k4))), (135, ptr b_154 1), (136, str ((zz13 f6 wait5 i).a)), (137, str ((fOutB (zz15 f4 k3) (zz11 f4 k3 f5 k4)) ++ (zz13 f6 wait5 i).a)), (138, .agg (fGArc.enc (zz16 f5 k4)).toArray), (139, .int .u8 (zz18 f4 k3 f5 k4)), (141, ptr b_154 2), (142, str ((zz13 f6 wait5 i).b))] Hn := by
        intro v_2157 Zn Hn hO
        refine Eq.mpr (hG _ _ _) (hd_more ?_ ?_)
        ·refine hd_h (OpV.toH (v_bytesStr underlying33 underlying5 underlying9 rfl (hO.osl 0 rfl))) (fun _ _ hR => hR.2 ▸ ⟨_, (Own.sel (Ls := [_, _, _, _, _, _, _, _, _, _, _, _, _, _, _, _, _, _]) (L := L) [1, 2, 3, 4, 5, 6, 7, 8, 9, 10, 14, 15] rfl hO)⟩) rfl ?_
         rintro vv HH ⟨hvv, hHH⟩
         obtain rfl := hvv.symm
         obtain rfl := hHH.symm
         refine hd_v rfl (fun _ _ => (v_addS rfl rfl hs_6158)) rfl (hd_h (h_call call50 (evs_cons rfl (evs_cons rfl evs_nil)) (funOut_spec (a0 := (zz16 f5 k4)) (a1 := (zz11 f4 k3 f5 k4)) hs_6159 hO)) (by rintro _ H_6162 ⟨Z_6163, _, rfl, hO⟩; exact ⟨_, (Own.sel (Ls := [_, _, _, _, _, _, _, _, _, _, _, _, _, _, _, _, _, _]) (L := L) [1, 2, 3, 4, 5, 6, 7, 8, 9, 10, 14, 15] rfl hO)⟩) rfl ?_)
         rintro _ H_6162 ⟨Z_6163, _, rfl, hO⟩
         refine hd_v rfl (fun _ _ => (v_addS rfl rfl hs_6160)) rfl (hd_v rfl (fun _ _ => (v_buildF (cs := (fGfun_tail.enc (zz10 f4 k3 f5 k4 f6 wait5 i))) (xs := [.tmp 131, .tmp 137, .tmp 143]) (is := [0, 1, 2]) rfl (evs_cons rfl (evs_cons rfl (evs_cons rfl evs_nil))) (fun w => by show _ = _; kernel_rfl))) rfl (hd_h (h_callv (fs := []) (cs := [ptr b_26 0, ptr b_31 0]) call47 rfl (evs_cons rfl (evs_cons rfl evs_nil)) (funTails1_spec (a0 := ((zz15 f4 k3).From, (zz16 f5 k4).From)) (a1 := (zz10 f4 k3 f5 k4 f6 wait5 i)) (a2 := (zz17 f6)) (a3 := wait5) (L := own fByte 5 v_2157 [(zz11 f4 k3 f5 k4)] :: box b_154 (fGfun_tail.enc (zz13 f6 wait5 i)) 105 :: box b_139 (fGArc.enc (zz16 f5 k4)) 39 :: fz (Rep.sl fStr.rep) v_127 f6.ends :: fz (Rep.sl fGArc.rep) v_126 f6.from' :: fz fGArc.rep v_125 f6.t.Arcs :: fz fGTip.rep v_124 f6.t.Ends :: fz fGTip.rep v_123 f6.t.Starts :: box b_120 (fGArc.enc (zz15 f4 k3)) 39 :: fz fGArc.rep v_106 f5.t.Arcs :: fz fGArc.rep v_89 f4.t.Arcs :: inZ Z :: L) hs_6161 (Own.sel (Ls := [_, _, _, _, _, _, _, _, _, _, _, _, _, _, _, _, _, _]) (L := L) [14, 16, 13, 17, 12, 11, 0, 1, 2, 3, 4, 5, 6, 7, 8, 9, 10, 15] rfl hO) (Fz.of (i := 7) rfl) (Fz.of (i := 6) rfl) (Fz.of (i := 5) rfl) (Fz.of (i := 4) rfl) (Fz.of (i := 3) rfl))) (by rintro _ H_6165 ⟨Z_6166, v_6168, v_6170, v_6172, v_6174, v_6176, v_6179, v_6180, b_6178, _, rfl, hO⟩; exact ⟨_, (Own.sel (Ls := [_, _, _, _, _, _, _, _, _, _, _, _, _, _, _, _, _, _, _, _, _, _, _]) (L := L) [12, 13, 14, 15, 16, 17, 18, 19, 20, 21, 0, 22] rfl hO)⟩) rfl ?_))
         rintro _ H_6165 ⟨Z_6166, v_6168, v_6170, v_6172, v_6174, v_6176, v_6179, v_6180, b_6178, _, rfl, hO⟩
         exact hd_sub _ (a_c 1 rfl (a_c 2 rfl (a_c 3 rfl (a_c 8 rfl (a_c 10 rfl (a_c 12 rfl (a_c 13 rfl (a_c 15 rfl (a_c 65 rfl (a_c 66 rfl (a_c 67 rfl (a_c 75 rfl (a_c 76 rfl (a_c 77 rfl (a_c 120 rfl (a_c 121 rfl (a_c 122 rfl (a_c 123 rfl (a_c 124 rfl (a_c 125 rfl (a_c 126 rfl (a_c 127 rfl (a_c 128 rfl (a_c 129 rfl (a_c 130 rfl (a_c 131 rfl (a_c 132 rfl (a_c 133 rfl (a_c 134 rfl (a_c 135 rfl (a_c 136 rfl (a_c 137 rfl (a_c 138 rfl (a_c 139 rfl (a_c 140 rfl (a_c 141 rfl (a_c 142 rfl (a_c 143 rfl (a_c 144 rfl (a_c 145 rfl a_n)))))))))))))))))))))))))))))))))))))))) (Eq.mp (hG funTails_25_0_3 _ _) (hfunTails_25_0_3 v_2157 v_6168 v_6170 v_6172 v_6174 v_6176 b_6178 v_6179 v_6180 _ _ hO))
        refine hd_last (hd_h (h_call call50 (evs_cons rfl (evs_cons rfl evs_nil)) (funOut_spec (a0 := (zz16 f5 k4)) (a1 := (zz11 f4 k3 f5 k4)) hs_6159 hO)) (by rintro _ H_6181 ⟨Z_6182, _, rfl, hO⟩; exact ⟨_, (Own.sel (Ls := [_, _, _, _, _, _, _, _, _, _, _, _, _, _, _, _, _, _]) (L := L) [1, 2, 3, 4, 5, 6, 7, 8, 9, 10, 14, 15] rfl hO)⟩) rfl ?_)
        rintro _ H_6181 ⟨Z_6182, _, rfl, hO⟩
        refine hd_v rfl (fun _ _ => (v_addS rfl rfl hs_6160)) rfl (hd_h (OpV.toH (v_bytesStr underlying33 underlying5 underlying9 rfl (hO.osl 0 rfl))) (fun _ _ hR => hR.2 ▸ ⟨_, (Own.sel (Ls := [_, _, _, _, _, _, _, _, _, _, _, _, _, _, _, _, _, _]) (L := L) [1, 2, 3, 4, 5, 6, 7, 8, 9, 10, 14, 15] rfl hO)⟩) rfl ?_)
        rintro vv HH ⟨hvv, hHH⟩
        obtain rfl := hvv.symm
        obtain rfl := hHH.symm
        refine hd_v rfl (fun _ _ => (v_addS rfl rfl hs_6158)) rfl (hd_v rfl (fun _ _ => (v_buildF (cs := (fGfun_tail.enc (zz10 f4 k3 f5 k4 f6 wait5 i))) (xs := [.tmp 131, .tmp 137, .tmp 143]) (is := [0, 1, 2]) rfl (evs_cons rfl (evs_cons rfl (evs_cons rfl evs_nil))) (fun w => by show _ = _; kernel_rfl))) rfl (hd_h (h_callv (fs := []) (cs := [ptr b_26 0, ptr b_31 0]) call47 rfl (evs_cons rfl (evs_cons rfl evs_nil)) (funTails1_spec (a0 := ((zz15 f4 k3).From, (zz16 f5 k4).From)) (a1 := (zz10 f4 k3 f5 k4 f6 wait5 i)) (a2 := (zz17 f6)) (a3 := wait5) (L := own fByte 5 v_2157 [(zz11 f4 k3 f5 k4)] :: box b_154 (fGfun_tail.enc (zz13 f6 wait5 i)) 105 :: box b_139 (fGArc.enc (zz16 f5 k4)) 39 :: fz (Rep.sl fStr.rep) v_127 f6.ends :: fz (Rep.sl fGArc.rep) v_126 f6.from' :: fz fGArc.rep v_125 f6.t.Arcs :: fz fGTip.rep v_124 f6.t.Ends :: fz fGTip.rep v_123 f6.t.Starts :: box b_120 (fGArc.enc (zz15 f4 k3)) 39 :: fz fGArc.rep v_106 f5.t.Arcs :: fz fGArc.rep v_89 f4.t.Arcs :: inZ Z :: L) hs_6161 (Own.sel (Ls := [_, _, _, _, _, _, _, _, _, _, _, _, _, _, _, _, _, _]) (L := L) [14, 16, 13, 17, 12, 11, 0, 1, 2, 3, 4, 5, 6, 7, 8, 9, 10, 15] rfl hO) (Fz.of (i := 7) rfl) (Fz.of (i := 6) rfl) (Fz.of (i := 5) rfl) (Fz.of (i := 4) rfl) (Fz.of (i := 3) rfl))) (by rintro _ H_6184 ⟨Z_6185, v_6187, v_6189, v_6191, v_6193, v_6195, v_6198, v_6199, b_6197, _, rfl, hO⟩; exact ⟨_, (Own.sel (Ls := [_, _, _, _, _, _, _, _, _, _, _, _, _, _, _, _, _, _, _, _, _, _, _]) (L := L) [12, 13, 14, 15, 16, 17, 18, 19, 20, 21, 0, 22] rfl hO)⟩) rfl ?_))
        rintro _ H_6184 ⟨Z_6185, v_6187, v_6189, v_6191, v_6193, v_6195, v_6198, v_6199, b_6197, _, rfl, hO⟩
        exact hd_sub _ (a_c 1 rfl (a_c 2 rfl (a_c 3 rfl (a_c 8 rfl (a_c 10 rfl (a_c 12 rfl (a_c 13 rfl (a_c 15 rfl (a_c 65 rfl (a_c 66 rfl (a_c 67 rfl (a_c 75 rfl (a_c 76 rfl (a_c 77 rfl (a_c 120 rfl (a_c 121 rfl (a_c 122 rfl (a_c 123 rfl (a_c 124 rfl (a_c 125 rfl (a_c 126 rfl (a_c 127 rfl (a_c 128 rfl (a_c 129 rfl (a_c 130 rfl (a_c 131 rfl (a_c 132 rfl (a_c 133 rfl (a_c 134 rfl (a_c 135 rfl (a_c 136 rfl (a_c 137 rfl (a_c 138 rfl (a_c 139 rfl (a_c 140 rfl (a_c 141 rfl (a_c 142 rfl (a_c 143 rfl (a_c 144 rfl (a_c 145 rfl a_n)))))))))))))))))))))))))))))))))))))))) (Eq.mp (hG funTails_25_0_3 _ _) (hfunTails_25_0_3 v_2157 v_6187 v_6189 v_6191 v_6193 v_6195 b_6197 v_6198 v_6199 _ _ hO))
       have hfunTails_25_0_1 : ∀ (v_2157 : Value) (Zn : Nat → Prop) (Hn : Heap), Own Hn Zn (own fByte 5 v_2157 [(zz11 f4 k3 f5 k4)] :: box b_154 (fGfun_tail.enc (zz13 f6 wait5 i)) 105 :: box b_139 (fGArc.enc (zz16 f5 k4)) 39 :: fz (Rep.sl fStr.rep) v_127 f6.ends :: fz (Rep.sl fGArc.rep) v_126 f6.from' :: fz fGArc.rep v_125 f6.t.Arcs :: fz fGTip.rep v_124 f6.t.Ends :: fz fGTip.rep v_123 f6.t.Starts :: box b_120 (fGArc.enc (zz15 f4 k3)) 39 :: fz fGArc.rep v_106 f5.t.Arcs :: fz fGArc.rep v_89 f4.t.Arcs :: own (fTwo fInt) 79 v_130 wait5 :: box b_31 [v_130] 103 :: tbl (aggOf (fTwo fInt)) (aggOf fGfun_tail) b_128 f6.on' :: box b_26 [ptr b_1 0] 52 :: inZ Z :: box b_1 [.int .i64 f6.t.States, v_123, v_124, v_125, v_126, v_127, .map (some b_128), v_129, .map none] 60 :: own fGfun_box_whittle_fun_place 86 v_129 f6.rows :: L) → G funTails_25_0_1 [(1, ptr b_26 0), (2, ptr b_31 0), (3, .func (.func 47) #[] #[ptr b_26 0, ptr b_31 0]), (8, .int .i64 i), (10, ptr b_120 0), (12, ptr b_139 0), (13, .int .u8 (zz18 f4 k3 f5 k4)), (15, ptr b_154 0), (65, v_89), (66, .int .i64 (f4.t.Arcs.length : Int)), (67, .int .i64 (k3 : Int)), (75, v_106), (76, .int .i64 (f5.t.Arcs.length : Int)), (77, .int .i64 (k4 : Int)), (120, .func (.func 47) #[] #[ptr b_26 0, ptr b_31 0]), (121, ptr b_120 0), (122, .int .i64 ((zz15 f4 k3).From)), (123, ptr b_139 0), (124, .int .i64 ((zz16 f5 k4).From)), (125, .agg ((fTwo fInt).enc ((zz15 f4 k3).From, (zz16 f5 k4).From)).toArray), (126, .int .u8 (zz18 f4 k3 f5 k4)), (127, v_2157), (129, ptr b_154 0), (130, str ((zz13 f6 wait5 i).w)), (132, .agg (fGArc.enc (zz15 f4 k3)).toArray), (133, .int .u8 (zz18 f4 k3 f5 k4)), (135, ptr b_154 1), (136, str ((zz13 f6 wait5 i).a)), (138, .agg (fGArc.enc (zz16 f5 k4)).toArray), (139, .int .u8 (zz18 f4 k3 f5 k4)), (141, ptr b_154 2), (142, str ((zz13 f6 wait5 i).b))] Hn := by
        intro v_2157 Zn Hn hO
        refine Eq.mpr (hG _ _ _) (hd_more ?_ ?_)
        ·refine hd_h (OpV.toH (v_bytesStr underlying33 underlying5 underlying9 rfl (hO.osl 0 rfl))) (fun _ _ hR => hR.2 ▸ ⟨_, (Own.sel (Ls := [_, _, _, _, _, _, _, _, _, _, _, _, _, _, _, _, _, _]) (L := L) [1, 2, 3, 4, 5, 6, 7, 8, 9, 10, 14, 15] rfl hO)⟩) rfl ?_
         rintro vv HH ⟨hvv, hHH⟩
         obtain rfl := hvv.symm
         obtain rfl := hHH.symm
         refine hd_v rfl (fun _ _ => (v_addS rfl rfl hs_6158)) rfl (hd_h (h_call call50 (evs_cons rfl (evs_cons rfl evs_nil)) (funOut_spec (a0 := (zz15 f4 k3)) (a1 := (zz11 f4 k3 f5 k4)) hs_6156 hO)) (by rintro _ H_6200 ⟨Z_6201, _, rfl, hO⟩; exact ⟨_, (Own.sel (Ls := [_, _, _, _, _, _, _, _, _, _, _, _, _, _, _, _, _, _]) (L := L) [1, 2, 3, 4, 5, 6, 7, 8, 9, 10, 14, 15] rfl hO)⟩) rfl ?_)
         rintro _ H_6200 ⟨Z_6201, _, rfl, hO⟩
         refine hd_v rfl (fun _ _ => (v_addS rfl rfl hs_6157)) rfl (hd_h (h_call call50 (evs_cons rfl (evs_cons rfl evs_nil)) (funOut_spec (a0 := (zz16 f5 k4)) (a1 := (zz11 f4 k3 f5 k4)) hs_6159 hO)) (by rintro _ H_6203 ⟨Z_6204, _, rfl, hO⟩; exact ⟨_, (Own.sel (Ls := [_, _, _, _, _, _, _, _, _, _, _, _, _, _, _, _, _, _]) (L := L) [1, 2, 3, 4, 5, 6, 7, 8, 9, 10, 14, 15] rfl hO)⟩) rfl ?_)
         rintro _ H_6203 ⟨Z_6204, _, rfl, hO⟩
         refine hd_v rfl (fun _ _ => (v_addS rfl rfl hs_6160)) rfl (hd_v rfl (fun _ _ => (v_buildF (cs := (fGfun_tail.enc (zz10 f4 k3 f5 k4 f6 wait5 i))) (xs := [.tmp 131, .tmp 137, .tmp 143]) (is := [0, 1, 2]) rfl (evs_cons rfl (evs_cons rfl (evs_cons rfl evs_nil))) (fun w => by show _ = _; kernel_rfl))) rfl (hd_h (h_callv (fs := []) (cs := [ptr b_26 0, ptr b_31 0]) call47 rfl (evs_cons rfl (evs_cons rfl evs_nil)) (funTails1_spec (a0 := ((zz15 f4 k3).From, (zz16 f5 k4).From)) (a1 := (zz10 f4 k3 f5 k4 f6 wait5 i)) (a2 := (zz17 f6)) (a3 := wait5) (L := own fByte 5 v_2157 [(zz11 f4 k3 f5 k4)] :: box b_154 (fGfun_tail.enc (zz13 f6 wait5 i)) 105 :: box b_139 (fGArc.enc (zz16 f5 k4)) 39 :: fz (Rep.sl fStr.rep) v_127 f6.ends :: fz (Rep.sl fGArc.rep) v_126 f6.from' :: fz fGArc.rep v_125 f6.t.Arcs :: fz fGTip.rep v_124 f6.t.Ends :: fz fGTip.rep v_123 f6.t.Starts :: box b_120 (fGArc.enc (zz15 f4 k3)) 39 :: fz fGArc.rep v_106 f5.t.Arcs :: fz fGArc.rep v_89 f4.t.Arcs :: inZ Z :: L) hs_6161 (Own.sel (Ls := [_, _, _, _, _, _, _, _, _, _, _, _, _, _, _, _, _, _]) (L := L) [14, 16, 13, 17, 12, 11, 0, 1, 2, 3, 4, 5, 6, 7, 8, 9, 10, 15] rfl hO) (Fz.of (i := 7) rfl) (Fz.of (i := 6) rfl) (Fz.of (i := 5) rfl) (Fz.of (i := 4) rfl) (Fz.of (i := 3) rfl))) (by rintro _ H_6206 ⟨Z_6207, v_6209, v_6211, v_6213, v_6215, v_6217, v_6220, v_6221, b_6219, _, rfl, hO⟩; exact ⟨_, (Own.sel (Ls := [_, _, _, _, _, _, _, _, _, _, _, _, _, _, _, _, _, _, _, _, _, _, _]) (L := L) [12, 13, 14, 15, 16, 17, 18, 19, 20, 21, 0, 22] rfl hO)⟩) rfl ?_))
         rintro _ H_6206 ⟨Z_6207, v_6209, v_6211, v_6213, v_6215, v_6217, v_6220, v_6221, b_6219, _, rfl, hO⟩
         exact hd_sub _ (a_c 1 rfl (a_c 2 rfl (a_c 3 rfl (a_c 8 rfl (a_c 10 rfl (a_c 12 rfl (a_c 13 rfl (a_c 15 rfl (a_c 65 rfl (a_c 66 rfl (a_c 67 rfl (a_c 75 rfl (a_c 76 rfl (a_c 77 rfl (a_c 120 rfl (a_c 121 rfl (a_c 122 rfl (a_c 123 rfl (a_c 124 rfl (a_c 125 rfl (a_c 126 rfl (a_c 127 rfl (a_c 128 rfl (a_c 129 rfl (a_c 130 rfl (a_c 131 rfl (a_c 132 rfl (a_c 133 rfl (a_c 134 rfl (a_c 135 rfl (a_c 136 rfl (a_c 137 rfl (a_c 138 rfl (a_c 139 rfl (a_c 140 rfl (a_c 141 rfl (a_c 142 rfl (a_c 143 rfl (a_c 144 rfl (a_c 145 rfl a_n)))))))))))))))))))))))))))))))))))))))) (Eq.mp (hG funTails_25_0_3 _ _) (hfunTails_25_0_3 v_2157 v_6209 v_6211 v_6213 v_6215 v_6217 b_6219 v_6220 v_6221 _ _ hO))
        refine hd_last (hd_h (h_call call50 (evs_cons rfl (evs_cons rfl evs_nil)) (funOut_spec (a0 := (zz15 f4 k3)) (a1 := (zz11 f4 k3 f5 k4)) hs_6156 hO)) (by rintro _ H_6222 ⟨Z_6223, _, rfl, hO⟩; exact ⟨_, (Own.sel (Ls := [_, _, _, _, _, _, _, _, _, _, _, _, _, _, _, _, _, _]) (L := L) [1, 2, 3, 4, 5, 6, 7, 8, 9, 10, 14, 15] rfl hO)⟩) rfl ?_)
        rintro _ H_6222 ⟨Z_6223, _, rfl, hO⟩
        refine hd_v rfl (fun _ _ => (v_addS rfl rfl hs_6157)) rfl ?_
        exact hd_sub _ (a_c 1 rfl (a_c 2 rfl (a_c 3 rfl (a_c 8 rfl (a_c 10 rfl (a_c 12 rfl (a_c 13 rfl (a_c 15 rfl (a_c 65 rfl (a_c 66 rfl (a_c 67 rfl (a_c 75 rfl (a_c 76 rfl (a_c 77 rfl (a_c 120 rfl (a_c 121 rfl (a_c 122 rfl (a_c 123 rfl (a_c 124 rfl (a_c 125 rfl (a_c 126 rfl (a_c 127 rfl (a_c 129 rfl (a_c 130 rfl (a_c 132 rfl (a_c 133 rfl (a_c 134 rfl (a_c 135 rfl (a_c 136 rfl (a_c 137 rfl (a_c 138 rfl (a_c 139 rfl (a_c 141 rfl (a_c 142 rfl a_n)))))))))))))))))))))))))))))))))) (Eq.mp (hG funTails_25_0_4 _ _) (hfunTails_25_0_4 v_2157 _ _ hO))
       have hfunTails_25_0_2 : ∀ (Zn : Nat → Prop) (Hn : Heap), Own Hn Zn (box b_154 (fGfun_tail.enc (zz13 f6 wait5 i)) 105 :: box b_139 (fGArc.enc (zz16 f5 k4)) 39 :: fz (Rep.sl fStr.rep) v_127 f6.ends :: fz (Rep.sl fGArc.rep) v_126 f6.from' :: fz fGArc.rep v_125 f6.t.Arcs :: fz fGTip.rep v_124 f6.t.Ends :: fz fGTip.rep v_123 f6.t.Starts :: box b_120 (fGArc.enc (zz15 f4 k3)) 39 :: fz fGArc.rep v_106 f5.t.Arcs :: fz fGArc.rep v_89 f4.t.Arcs :: own (fTwo fInt) 79 v_130 wait5 :: box b_31 [v_130] 103 :: tbl (aggOf (fTwo fInt)) (aggOf fGfun_tail) b_128 f6.on' :: box b_26 [ptr b_1 0] 52 :: inZ Z :: box b_1 [.int .i64 f6.t.States, v_123, v_124, v_125, v_126, v_127, .map (some b_128), v_129, .map none] 60 :: own fGfun_box_whittle_fun_place 86 v_129 f6.rows :: L) → G funTails_25_0_2 [(1, ptr b_26 0), (2, ptr b_31 0), (3, .func (.func 47) #[] #[ptr b_26 0, ptr b_31 0]), (8, .int .i64 i), (10, ptr b_120 0), (12, ptr b_139 0), (13, .int .u8 (zz18 f4 k3 f5 k4)), (15, ptr b_154 0), (65, v_89), (66, .int .i64 (f4.t.Arcs.length : Int)), (67, .int .i64 (k3 : Int)), (75, v_106), (76, .int .i64 (f5.t.Arcs.length : Int)), (77, .int .i64 (k4 : Int)), (120, .func (.func 47) #[] #[ptr b_26 0, ptr b_31 0]), (121, ptr b_120 0), (122, .int .i64 ((zz15 f4 k3).From)), (123, ptr b_139 0), (124, .int .i64 ((zz16 f5 k4).From)), (125, .agg ((fTwo fInt).enc ((zz15 f4 k3).From, (zz16 f5 k4).From)).toArray), (126, .int .u8 (zz18 f4 k3 f5 k4)), (129, ptr b_154 0), (130, str ((zz13 f6 wait5 i).w)), (132, .agg (fGArc.enc (zz15 f4 k3)).toArray), (133, .int .u8 (zz18 f4 k3 f5 k4)), (134, str (fOutB (zz15 f4 k3) (zz11 f4 k3 f5 k4))), (135, ptr b_154 1), (136, str ((zz13 f6 wait5 i).a)), (137, str ((fOutB (zz15 f4 k3) (zz11 f4 k3 f5 k4)) ++ (zz13 f6 wait5 i).a)), (138, .agg (fGArc.enc (zz16 f5 k4)).toArray), (139, .int .u8 (zz18 f4 k3 f5 k4)), (141, ptr b_154 2), (142, str ((zz13 f6 wait5 i).b))] Hn := by
        intro Zn Hn hO
        refine Eq.mpr (hG _ _ _) (hd_more ?_ ?_)
        ·refine hd_h (o_lit (g := fByte) (l := [(zz11 f4 k3 f5 k4)]) (xs := [.tmp 126]) hO underlying33 sizeOf5 zeroValue5 rfl (evs_cons rfl evs_nil) rfl rfl rfl rfl rfl) (by rintro v_6226 H_6225 hO; exact ⟨_, (Own.sel (Ls := [_, _, _, _, _, _, _, _, _, _, _, _, _, _, _, _, _, _]) (L := L) [1, 2, 3, 4, 5, 6, 7, 8, 9, 10, 14, 15] rfl hO)⟩) rfl ?_
         rintro v_6226 H_6225 hO
         exact hd_sub _ (a_c 1 rfl (a_c 2 rfl (a_c 3 rfl (a_c 8 rfl (a_c 10 rfl (a_c 12 rfl (a_c 13 rfl (a_c 15 rfl (a_c 65 rfl (a_c 66 rfl (a_c 67 rfl (a_c 75 rfl (a_c 76 rfl (a_c 77 rfl (a_c 120 rfl (a_c 121 rfl (a_c 122 rfl (a_c 123 rfl (a_c 124 rfl (a_c 125 rfl (a_c 126 rfl (a_c 127 rfl (a_c 129 rfl (a_c 130 rfl (a_c 132 rfl (a_c 133 rfl (a_c 134 rfl (a_c 135 rfl (a_c 136 rfl (a_c 137 rfl (a_c 138 rfl (a_c 139 rfl (a_c 141 rfl (a_c 142 rfl a_n)))))))))))))))))))))))))))))))))) (Eq.mp (hG funTails_25_0_4 _ _) (hfunTails_25_0_4 v_6226 _ _ hO))
        refine hd_last (hd_h (h_call call50 (evs_cons rfl (evs_cons rfl evs_nil)) (funOut_spec (a0 := (zz16 f5 k4)) (a1 := (zz11 f4 k3 f5 k4)) hs_6159 hO)) (by rintro _ H_6227 ⟨Z_6228, _, rfl, hO⟩; exact ⟨_, (Own.sel (Ls := [_, _, _, _, _, _, _, _, _, _, _, _, _, _, _, _, _]) (L := L) [0, 1, 2, 3, 4, 5, 6, 7, 8, 9, 13, 14] rfl hO)⟩) rfl ?_)
        rintro _ H_6227 ⟨Z_6228, _, rfl, hO⟩
        refine hd_v rfl (fun _ _ => (v_addS rfl rfl hs_6160)) rfl (hd_h (o_lit (g := fByte) (l := [(zz11 f4 k3 f5 k4)]) (xs := [.tmp 126]) hO underlying33 sizeOf5 zeroValue5 rfl (evs_cons rfl evs_nil) rfl rfl rfl rfl rfl) (by rintro v_6231 H_6230 hO; exact ⟨_, (Own.sel (Ls := [_, _, _, _, _, _, _, _, _, _, _, _, _, _, _, _, _, _]) (L := L) [1, 2, 3, 4, 5, 6, 7, 8, 9, 10, 14, 15] rfl hO)⟩) rfl ?_)
        rintro v_6231 H_6230 hO
        refine hd_h (OpV.toH (v_bytesStr underlying33 underlying5 underlying9 rfl (hO.osl 0 rfl))) (fun _ _ hR => hR.2 ▸ ⟨_, (Own.sel (Ls := [_, _, _, _, _, _, _, _, _, _, _, _, _, _, _, _, _, _]) (L := L) [1, 2, 3, 4, 5, 6, 7, 8, 9, 10, 14, 15] rfl hO)⟩) rfl ?_
        rintro vv HH ⟨hvv, hHH⟩
        obtain rfl := hvv.symm
        obtain rfl := hHH.symm
        refine hd_v rfl (fun _ _ => (v_addS rfl rfl hs_6158)) rfl (hd_v rfl (fun _ _ => (v_buildF (cs := (fGfun_tail.enc (zz10 f4 k3 f5 k4 f6 wait5 i))) (xs := [.tmp 131, .tmp 137, .tmp 143]) (is := [0, 1, 2]) rfl (evs_cons rfl (evs_cons rfl (evs_cons rfl evs_nil))) (fun w => by show _ = _; kernel_rfl))) rfl (hd_h (h_callv (fs := []) (cs := [ptr b_26 0, ptr b_31 0]) call47 rfl (evs_cons rfl (evs_cons rfl evs_nil)) (funTails1_spec (a0 := ((zz15 f4 k3).From, (zz16 f5 k4).From)) (a1 := (zz10 f4 k3 f5 k4 f6 wait5 i)) (a2 := (zz17 f6)) (a3 := wait5) (L := own fByte 5 v_6231 [(zz11 f4 k3 f5 k4)] :: box b_154 (fGfun_tail.enc (zz13 f6 wait5 i)) 105 :: box b_139 (fGArc.enc (zz16 f5 k4)) 39 :: fz (Rep.sl fStr.rep) v_127 f6.ends :: fz (Rep.sl fGArc.rep) v_126 f6.from' :: fz fGArc.rep v_125 f6.t.Arcs :: fz fGTip.rep v_124 f6.t.Ends :: fz fGTip.rep v_123 f6.t.Starts :: box b_120 (fGArc.enc (zz15 f4 k3)) 39 :: fz fGArc.rep v_106 f5.t.Arcs :: fz fGArc.rep v_89 f4.t.Arcs :: inZ Z :: L) hs_6161 (Own.sel (Ls := [_, _, _, _, _, _, _, _, _, _, _, _, _, _, _, _, _, _]) (L := L) [14, 16, 13, 17, 12, 11, 0, 1, 2, 3, 4, 5, 6, 7, 8, 9, 10, 15] rfl hO) (Fz.of (i := 7) rfl) (Fz.of (i := 6) rfl) (Fz.of (i := 5) rfl) (Fz.of (i := 4) rfl) (Fz.of (i := 3) rfl))) (by rintro _ H_6232 ⟨Z_6233, v_6235, v_6237, v_6239, v_6241, v_6243, v_6246, v_6247, b_6245, _, rfl, hO⟩; exact ⟨_, (Own.sel (Ls := [_, _, _, _, _, _, _, _, _, _, _, _, _, _, _, _, _, _, _, _, _, _, _]) (L := L) [12, 13, 14, 15, 16, 17, 18, 19, 20, 21, 0, 22] rfl hO)⟩) rfl ?_))
        rintro _ H_6232 ⟨Z_6233, v_6235, v_6237, v_6239, v_6241, v_6243, v_6246, v_6247, b_6245, _, rfl, hO⟩
        exact hd_sub _ (a_c 1 rfl (a_c 2 rfl (a_c 3 rfl (a_c 8 rfl (a_c 10 rfl (a_c 12 rfl (a_c 13 rfl (a_c 15 rfl (a_c 65 rfl (a_c 66 rfl (a_c 67 rfl (a_c 75 rfl (a_c 76 rfl (a_c 77 rfl (a_c 120 rfl (a_c 121 rfl (a_c 122 rfl (a_c 123 rfl (a_c 124 rfl (a_c 125 rfl (a_c 126 rfl (a_c 127 rfl (a_c 128 rfl (a_c 129 rfl (a_c 130 rfl (a_c 131 rfl (a_c 132 rfl (a_c 133 rfl (a_c 134 rfl (a_c 135 rfl (a_c 136 rfl (a_c 137 rfl (a_c 138 rfl (a_c 139 rfl (a_c 140 rfl (a_c 141 rfl (a_c 142 rfl (a_c 143 rfl (a_c 144 rfl (a_c 145 rfl a_n)))))))))))))))))))))))))))))))))))))))) (Eq.mp (hG funTails_25_0_3 _ _) (hfunTails_25_0_3 v_6231 v_6235 v_6237 v_6239 v_6241 v_6243 b_6245 v_6246 v_6247 _ _ hO))
       have hfunTails_25_0_0 : ∀ (Zn : Nat → Prop) (Hn : Heap), Own Hn Zn (box b_154 (fGfun_tail.enc (zz13 f6 wait5 i)) 105 :: box b_139 (fGArc.enc (zz16 f5 k4)) 39 :: fz (Rep.sl fStr.rep) v_127 f6.ends :: fz (Rep.sl fGArc.rep) v_126 f6.from' :: fz fGArc.rep v_125 f6.t.Arcs :: fz fGTip.rep v_124 f6.t.Ends :: fz fGTip.rep v_123 f6.t.Starts :: box b_120 (fGArc.enc (zz15 f4 k3)) 39 :: fz fGArc.rep v_106 f5.t.Arcs :: fz fGArc.rep v_89 f4.t.Arcs :: own (fTwo fInt) 79 v_130 wait5 :: box b_31 [v_130] 103 :: tbl (aggOf (fTwo fInt)) (aggOf fGfun_tail) b_128 f6.on' :: box b_26 [ptr b_1 0] 52 :: inZ Z :: box b_1 [.int .i64 f6.t.States, v_123, v_124, v_125, v_126, v_127, .map (some b_128), v_129, .map none] 60 :: own fGfun_box_whittle_fun_place 86 v_129 f6.rows :: L) → G funTails_25_0_0 [(1, ptr b_26 0), (2, ptr b_31 0), (3, .func (.func 47) #[] #[ptr b_26 0, ptr b_31 0]), (8, .int .i64 i), (10, ptr b_120 0), (12, ptr b_139 0), (13, .int .u8 (zz18 f4 k3 f5 k4)), (15, ptr b_154 0), (65, v_89), (66, .int .i64 (f4.t.Arcs.length : Int)), (67, .int .i64 (k3 : Int)), (75, v_106), (76, .int .i64 (f5.t.Arcs.length : Int)), (77, .int .i64 (k4 : Int)), (120, .func (.func 47) #[] #[ptr b_26 0, ptr b_31 0]), (121, ptr b_120 0), (122, .int .i64 ((zz15 f4 k3).From)), (123, ptr b_139 0), (124, .int .i64 ((zz16 f5 k4).From)), (125, .agg ((fTwo fInt).enc ((zz15 f4 k3).From, (zz16 f5 k4).From)).toArray), (126, .int .u8 (zz18 f4 k3 f5 k4)), (129, ptr b_154 0), (130, str ((zz13 f6 wait5 i).w)), (132, .agg (fGArc.enc (zz15 f4 k3)).toArray), (133, .int .u8 (zz18 f4 k3 f5 k4)), (135, ptr b_154 1), (136, str ((zz13 f6 wait5 i).a)), (138, .agg (fGArc.enc (zz16 f5 k4)).toArray), (139, .int .u8 (zz18 f4 k3 f5 k4)), (141, ptr b_154 2), (142, str ((zz13 f6 wait5 i).b))] Hn := by
        intro Zn Hn hO
        refine Eq.mpr (hG _ _ _) (hd_more ?_ ?_)
        ·refine hd_h (o_lit (g := fByte) (l := [(zz11 f4 k3 f5 k4)]) (xs := [.tmp 126]) hO underlying33 sizeOf5 zeroValue5 rfl (evs_cons rfl evs_nil) rfl rfl rfl rfl rfl) (by rintro v_6249 H_6248 hO; exact ⟨_, (Own.sel (Ls := [_, _, _, _, _, _, _, _, _, _, _, _, _, _, _, _, _, _]) (L := L) [1, 2, 3, 4, 5, 6, 7, 8, 9, 10, 14, 15] rfl hO)⟩) rfl ?_
         rintro v_6249 H_6248 hO
         exact hd_sub _ (a_c 1 rfl (a_c 2 rfl (a_c 3 rfl (a_c 8 rfl (a_c 10 rfl (a_c 12 rfl (a_c 13 rfl (a_c 15 rfl (a_c 65 rfl (a_c 66 rfl (a_c 67 rfl (a_c 75 rfl (a_c 76 rfl (a_c 77 rfl (a_c 120 rfl (a_c 121 rfl (a_c 122 rfl (a_c 123 rfl (a_c 124 rfl (a_c 125 rfl (a_c 126 rfl (a_c 127 rfl (a_c 129 rfl (a_c 130 rfl (a_c 132 rfl (a_c 133 rfl (a_c 135 rfl (a_c 136 rfl (a_c 138 rfl (a_c 139 rfl (a_c 141 rfl (a_c 142 rfl a_n)))))))))))))))))))))))))))))))) (Eq.mp (hG funTails_25_0_1 _ _) (hfunTails_25_0_1 v_6249 _ _ hO))
        refine hd_last (hd_h (h_call call50 (evs_cons rfl (evs_cons rfl evs_nil)) (funOut_spec (a0 := (zz15 f4 k3)) (a1 := (zz11 f4 k3 f5 k4)) hs_6156 hO)) (by rintro _ H_6250 ⟨Z_6251, _, rfl, hO⟩; exact ⟨_, (Own.sel (Ls := [_, _, _, _, _, _, _, _, _, _, _, _, _, _, _, _, _]) (L := L) [0, 1, 2, 3, 4, 5, 6, 7, 8, 9, 13, 14] rfl hO)⟩) rfl ?_)
        rintro _ H_6250 ⟨Z_6251, _, rfl, hO⟩
        refine hd_v rfl (fun _ _ => (v_addS rfl rfl hs_6157)) rfl ?_
        exact hd_sub _ (a_c 1 rfl (a_c 2 rfl (a_c 3 rfl (a_c 8 rfl (a_c 10 rfl (a_c 12 rfl (a_c 13 rfl (a_c 15 rfl (a_c 65 rfl (a_c 66 rfl (a_c 67 rfl (a_c 75 rfl (a_c 76 rfl (a_c 77 rfl (a_c 120 rfl (a_c 121 rfl (a_c 122 rfl (a_c 123 rfl (a_c 124 rfl (a_c 125 rfl (a_c 126 rfl (a_c 129 rfl (a_c 130 rfl (a_c 132 rfl (a_c 133 rfl (a_c 134 rfl (a_c 135 rfl (a_c 136 rfl (a_c 137 rfl (a_c 138 rfl (a_c 139 rfl (a_c 141 rfl (a_c 142 rfl a_n))))))))))))))))))))))))))))))))) (Eq.mp (hG funTails_25_0_2 _ _) (hfunTails_25_0_2 _ _ hO))
       refine Eq.mpr (hG _ _ _) (hd_v rfl (fun _ _ => (v_move rfl)) rfl (hd_v rfl (fun _ _ => (v_fieldA underlying39 rfl sizeOf3 rfl)) rfl (hd_v rfl (fun H' hS => by obtain ⟨Z', hO⟩ := hS; exact (v_load1 isAgg3 rfl (Blk.cell (hO.box 7 rfl) rfl))) rfl (hd_v rfl (fun _ _ => (v_fieldA underlying39 rfl sizeOf3 rfl)) rfl (hd_v rfl (fun H' hS => by obtain ⟨Z', hO⟩ := hS; exact (v_load1 isAgg3 rfl (Blk.cell (hO.box 1 rfl) rfl))) rfl (hd_v rfl (fun _ _ => (v_buildTwo underlying79 zeroValue79 rfl sizeOf3 rfl rfl)) rfl (hd_v rfl (fun _ _ => (v_move rfl)) rfl (hd_v rfl (fun _ _ => (v_fieldA underlying105 rfl sizeOf9 rfl)) rfl (hd_v rfl (fun H' hS => by obtain ⟨Z', hO⟩ := hS; exact (v_load1 isAgg9 rfl (Blk.cell (hO.box 0 rfl) rfl))) rfl (hd_v rfl (fun H' hS => by obtain ⟨Z', hO⟩ := hS; exact (v_loadA isAgg39 sizeOf39 rfl (Blk.at0 (hO.box 7 rfl)) rfl)) rfl (hd_v rfl (fun _ _ => (v_move rfl)) rfl (hd_v rfl (fun _ _ => (v_fieldA underlying105 rfl sizeOf9 rfl)) rfl (hd_v rfl (fun H' hS => by obtain ⟨Z', hO⟩ := hS; exact (v_load1 isAgg9 rfl (Blk.cell (hO.box 0 rfl) rfl))) rfl (hd_v rfl (fun H' hS => by obtain ⟨Z', hO⟩ := hS; exact (v_loadA isAgg39 sizeOf39 rfl (Blk.at0 (hO.box 1 rfl)) rfl)) rfl (hd_v rfl (fun _ _ => (v_move rfl)) rfl (hd_v rfl (fun _ _ => (v_fieldA underlying105 rfl sizeOf9 rfl)) rfl (hd_v rfl (fun H' hS => by obtain ⟨Z', hO⟩ := hS; exact (v_load1 isAgg9 rfl (Blk.cell (hO.box 0 rfl) rfl))) rfl ?_)))))))))))))))))
       exact hd_sub _ (a_c 1 rfl (a_c 2 rfl (a_c 3 rfl (a_c 8 rfl (a_c 10 rfl (a_c 12 rfl (a_c 13 rfl (a_c 15 rfl (a_c 65 rfl (a_c 66 rfl (a_c 67 rfl (a_c 75 rfl (a_c 76 rfl (a_c 77 rfl (a_c 120 rfl (a_c 121 rfl (a_c 122 rfl (a_c 123 rfl (a_c 124 rfl (a_c 125 rfl (a_c 126 rfl (a_c 129 rfl (a_c 130 rfl (a_c 132 rfl (a_c 133 rfl (a_c 135 rfl (a_c 136 rfl (a_c 138 rfl (a_c 139 rfl (a_c 141 rfl (a_c 142 rfl a_n))))))))))))))))))))))))))))))) (Eq.mp (hG funTails_25_0_0 _ _) (hfunTails_25_0_0 _ _ hO))
      ·rintro _ H_6253 ⟨v_2157, v_4171, v_4173, v_4175, v_4177, v_4179, b_4181, v_4182, v_4183, Z_6254, hai, hO⟩
       refine blockQ_n (thenQ_n (hw_sub _ hai (hw_region (hl_v (v_add rfl rfl (by have hq := of_decide_eq_true hc_137; have hm := hln_122; constructor <;> omega)) rfl (hl_v (v_move rfl) rfl (hl_nil (thenQ_n ?_)))))))
       exact ⟨_, _, (a_c 1 rfl (a_c 2 rfl (a_c 3 rfl (a_c 8 rfl (a_c 10 rfl (a_c 65 rfl (a_c 66 rfl (a_c 67 rfl (a_c 75 rfl (a_c 76 rfl (a_c 77 rfl a_n))))))))))), ⟨(⟨(((zz12 f4 k3 f5 k4 f6 wait5 i).1).t), ((zz12 f4 k3 f5 k4 f6 wait5 i).1).from', ((zz12 f4 k3 f5 k4 f6 wait5 i).1).ends, ((zz12 f4 k3 f5 k4 f6 wait5 i).1).on', ((zz12 f4 k3 f5 k4 f6 wait5 i).1).rows, []⟩ : Gfun_finder), (zz12 f4 k3 f5 k4 f6 wait5 i).2, k4 + 1, v_4171, v_4173, v_4175, v_4177, v_4179, b_4181, v_4182, v_4183, _, rfl, rfl, h, (by have hq := of_decide_eq_true hc_137; omega), (Own.sel (Ls := [_, _, _, _, _, _, _, _, _, _, _, _, _, _, _, _, _, _, _, _, _, _, _]) (L := L) [10, 9, 8, 7, 6, 19, 20, 21, 5, 4, 2, 0, 22, 1, 3] rfl hO)⟩, (by have hq := of_decide_eq_true hc_137; omega)⟩
     ·replace h := ite_f h hc_151
      refine hw_skip (blockQ_n (thenQ_n (hw_region (hl_v (v_add rfl rfl (by have hq := of_decide_eq_true hc_137; have hm := hln_122; constructor <;> omega)) rfl (hl_v (v_move rfl) rfl (hl_nil (thenQ_n ?_)))))))
      exact ⟨_, _, (a_c 1 rfl (a_c 2 rfl (a_c 3 rfl (a_c 8 rfl (a_c 10 rfl (a_c 65 rfl (a_c 66 rfl (a_c 67 rfl (a_c 75 rfl (a_c 76 rfl (a_c 77 rfl a_n))))))))))), ⟨(zz17 f6), wait5, k4 + 1, v_123, v_124, v_125, v_126, v_127, b_128, v_129, v_130, _, rfl, rfl, h, (by have hq := of_decide_eq_true hc_137; omega), (Own.sel (Ls := [_, _, _, _, _, _, _, _, _, _, _, _, _, _, _, _]) (L := L) [1, 2, 3, 4, 5, 6, 7, 8, 9, 10, 11, 12, 13, 14, 15] rfl hO)⟩, (by have hq := of_decide_eq_true hc_137; omega)⟩
    ·replace h := ite_f h hc_137
     refine hw_exit (thenQ_e (thenQ_e (blockQ_hit (blockQ_n (thenQ_n (hw_region (hl_v (v_add rfl rfl (by have hq := of_decide_eq_true hc_118; have hm := hln_103; constructor <;> omega)) rfl (hl_v (v_move rfl) rfl (hl_nil (thenQ_n ?_))))))))))
     exact ⟨_, _, (a_c 1 rfl (a_c 2 rfl (a_c 3 rfl (a_c 8 rfl (a_c 65 rfl (a_c 66 rfl (a_c 67 rfl a_n))))))), ⟨(zz17 f6), wait5, k3 + 1, v_123, v_124, v_125, v_126, v_127, b_128, v_129, v_130, _, rfl, rfl, h, (by have hq := of_decide_eq_true hc_118; omega), (Own.sel (Ls := [_, _, _, _, _, _, _, _, _, _, _, _, _, _, _]) (L := L) [0, 1, 2, 3, 4, 7, 8, 9, 10, 11, 12, 13, 14] rfl hO)⟩, (by have hq := of_decide_eq_true hc_118; omega)⟩
   ·replace h := ite_f h hc_118
    refine hw_exit (thenQ_e (thenQ_e (blockQ_hit (blockQ_n (thenQ_n (hw_region (hl_v (v_move rfl) rfl ?_)))))))
    obtain ⟨hs_6255, h⟩ := h
    refine hl_v (v_add rfl rfl hs_6255) rfl (hl_v (v_assign rfl) rfl (hl_nil (thenQ_n ?_)))
    exact ⟨_, _, (a_c 1 rfl (a_c 2 rfl (a_c 3 rfl (a_c 8 rfl a_n)))), ⟨(⟨f5.t, f5.from', f5.ends, f5.on', f5.rows, []⟩ : Gfun_finder), wait4, (i + 1), v_104, v_105, v_106, v_107, v_108, b_109, v_110, v_111, _, rfl, rfl, h.1, (Own.sel (Ls := [_, _, _, _, _, _, _, _, _, _, _, _, _]) (L := L) [0, 1, 2, 3, 4, 6, 7, 8, 9, 10, 11, 12] rfl hO)⟩, h.2⟩
  ·replace h := ite_f h hc_102
   refine hw_exit (thenQ_e (thenQ_e (blockQ_hit (ret_n _ ra_nil ?_))))
   exact ⟨_, (⟨f4.t, f4.from', f4.ends, f4.on', f4.rows, []⟩ : Gfun_finder), v_87, v_88, v_89, v_90, v_91, v_93, b_92, (hO.inz 9 rfl), h, rfl, (Own.sel (Ls := [_, _, _, _, _, _, _, _, _, _, _, _]) (L := L) [10, 7, 11, 4, 3, 2, 1, 0] rfl hO)⟩
theorem funTails_spec {a0 : Gfun_finder} {v_2 : Value} {v_4 : Value} {v_6 : Value} {v_8 : Value} {v_10 : Value} {v_12 : Value} {b_1 : Nat} {L : List As} (hp : a0.seen = [] ∧ FdrOk a0.t a0.from' a0.ends) {H : Heap} {Z : Nat → Prop} (hO : Own H Z (box b_1 [.int .i64 a0.t.States, v_2, v_4, v_6, v_8, v_10, .map none, v_12, .map none] 60 :: own fGfun_box_whittle_fun_place 86 v_12 a0.rows :: L)) (hf_3 : Fz fGTip.rep L v_2 a0.t.Starts) (hf_5 : Fz fGTip.rep L v_4 a0.t.Ends) (hf_7 : Fz fGArc.rep L v_6 a0.t.Arcs) (hf_9 : Fz (Rep.sl fGArc.rep) L v_8 a0.from') (hf_11 : Fz (Rep.sl fStr.rep) L v_10 a0.ends) : HC Tryz.prog 28 [ptr b_1 0] H (fun v H' => ∃ (Z' : Nat → Prop) (v_13 : Value) (v_15 : Value) (v_17 : Value) (v_19 : Value) (v_21 : Value) (v_24 : Value) (b_23 : Nat), (∀ b, Z b → Z' b) ∧ v = .tuple #[] ∧ Own H' Z' (box b_1 [.int .i64 ((nTails a0)).t.States, v_13, v_15, v_17, v_19, v_21, .map (some b_23), v_24, .map none] 60 :: tbl (aggOf (fTwo fInt)) (aggOf fGfun_tail) b_23 ((nTails a0)).on' :: own fGfun_box_whittle_fun_place 86 v_24 ((nTails a0)).rows :: fz fGTip.rep v_13 ((nTails a0)).t.Starts :: fz fGTip.rep v_15 ((nTails a0)).t.Ends :: fz fGArc.rep v_17 ((nTails a0)).t.Arcs :: fz (Rep.sl fGArc.rep) v_19 ((nTails a0)).from' :: fz (Rep.sl fStr.rep) v_21 ((nTails a0)).ends :: L)) := by
  refine (funTails_ok (f := a0) (@funTails_wp a0 hp) hO hf_3 hf_5 hf_7 hf_9 hf_11).mono ?_
  rintro v H' ⟨Z', m0, v_13, v_15, v_17, v_19, v_21, v_24, b_23, hz, hq, hv, hO'⟩
  obtain rfl := hq
  exact ⟨Z', v_13, v_15, v_17, v_19, v_21, v_24, b_23, hz, hv, hO'⟩
end
end Go.Proofs.YtaopgjfioabfpaaGreat
