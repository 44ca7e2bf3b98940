/- Walks: functions do as their plain formulas say. No condition. -/
import Derived.Test.YtbfgjdhdohfacaaProg
import Derived.Test.YtbfgjdhdohfacaaSep4
import Derived.Test.YtbfgjdhdohfacaaP02m
import Derived.Test.YtbfgjdhdohfacaaSep5
import Derived.Test.YtbfgjdhdohfacaaL02c
set_option linter.unusedVariables false
set_option linter.unusedSimpArgs false
set_option maxRecDepth 20000
namespace Go.Proofs.Ytbfgjdhdohfacaa
open Go.Proofs
theorem pParts_spec {a0 : List BSet} {v_1 : Value} {L : List As} {H : Heap} {Z : Nat → Prop} (hO : Own H Z L) (hr : Rd fSet.rep L v_1 a0) : HC Try.prog 28 [v_1] H (fun v H' => ∃ (Z' : Nat → Prop) (v_3 : Value), (∀ b, Z b → Z' b) ∧ v = .tuple #[v_3, .int .i64 (pE a0)] ∧ Own H' Z' (own fSet 31 v_3 (pP a0) :: L)) :=
  (Parts_spec ((hr.sl hO).inb (by decide)) fun _ h => h).mono fun v H' ⟨u, h1, h2, h3⟩ => ⟨Z, u, fun _ h => h, h1, hO.made h2 h3⟩
theorem pClass_spec {a0 : List BSet} {v_1 : Value} {L : List As} {H : Heap} {Z : Nat → Prop} (hO : Own H Z L) (hr : Rd fSet.rep L v_1 a0) : HC Try.prog 30 [v_1] H (fun v H' => ∃ (Z' : Nat → Prop) (v_3 : Value), (∀ b, Z b → Z' b) ∧ v = .tuple #[v_3, .int .i64 (cE a0)] ∧ Own H' Z' (own fInt 3 v_3 (cC a0) :: L)) :=
  (Class_spec ((hr.sl hO).inb (by decide)) fun _ h => h).mono fun v H' ⟨u, h1, h2, h3⟩ => ⟨Z, u, fun _ h => h, h1, hO.made h2 h3⟩
theorem pSets_spec {a0 : List Int} {v_1 : Value} {L : List As} {H : Heap} {Z : Nat → Prop} (hO : Own H Z L) (hr : Rd fInt.rep L v_1 a0) : HC Try.prog 44 [v_1] H (fun v H' => ∃ (Z' : Nat → Prop) (v_3 : Value), (∀ b, Z b → Z' b) ∧ v = .tuple #[v_3, .int .i64 (sE a0)] ∧ Own H' Z' (own fSet 31 v_3 (sS a0) :: L)) :=
  (Sets_spec ((hr.sl hO).inb (by decide)) fun _ h => h).mono fun v H' ⟨u, h1, h2, h3⟩ => ⟨Z, u, fun _ h => h, h1, hO.made h2 h3⟩
theorem pOver_spec {a0 : List BSet} {a1 : BSet} {v_1 : Value} {L : List As} {H : Heap} {Z : Nat → Prop} (hO : Own H Z L) (hr : Rd fSet.rep L v_1 a0) : HC Try.prog 46 [v_1, sv a1] H (fun v H' => ∃ (Z' : Nat → Prop) (v_3 : Value), (∀ b, Z b → Z' b) ∧ v = .tuple #[v_3, .int .i64 (oE a0 a1)] ∧ Own H' Z' (own fInt 3 v_3 (oO a0 a1) :: L)) :=
  (Over_spec ((hr.sl hO).inb (by decide)) fun _ h => h).mono fun v H' ⟨u, h1, h2, h3⟩ => ⟨Z, u, fun _ h => h, h1, hO.made h2.toInt h3⟩
theorem rSame_spec {a0 a1 : List BSet} {v_1 v_2 : Value} {L : List As} {H : Heap} {Z : Nat → Prop} (hO : Own H Z L) (hr : Rd fSet.rep L v_1 a0) (hr2 : Rd fSet.rep L v_2 a1) : HC Try.prog 33 [v_1, v_2] H (fun v H' => ∃ (Z' : Nat → Prop), (∀ b, Z b → Z' b) ∧ v = .bool (decide (a0 = a1)) ∧ Own H' Z' L) :=
  (Same_spec (hr.sl hO) (hr2.sl hO)).mono fun v H' ⟨h1, h2⟩ => ⟨Z, fun _ h => h, h1, h2 ▸ hO⟩
theorem rInts_spec {a0 a1 : List Int} {v_1 v_2 : Value} {L : List As} {H : Heap} {Z : Nat → Prop} (hO : Own H Z L) (hr : Rd fInt.rep L v_1 a0) (hr2 : Rd fInt.rep L v_2 a1) : HC Try.prog 34 [v_1, v_2] H (fun v H' => ∃ (Z' : Nat → Prop), (∀ b, Z b → Z' b) ∧ v = .bool (decide (a0 = a1)) ∧ Own H' Z' L) :=
  (Ints_spec (hr.sl hO) (hr2.sl hO)).mono fun v H' ⟨h1, h2⟩ => ⟨Z, fun _ h => h, h1, h2 ▸ hO⟩
theorem sBoth_spec {a0 a1 : BSet} {L : List As} {H : Heap} {Z : Nat → Prop} (hO : Own H Z L) : HC Try.prog 35 [sv a0, sv a1] H (fun v H' => ∃ (Z' : Nat → Prop), (∀ b, Z b → Z' b) ∧ v = sv (a0.band a1) ∧ Own H' Z' L) :=
  (Both_spec).mono fun v H' ⟨h1, h2⟩ => ⟨Z, fun _ h => h, h1, hO.ext h2⟩
theorem sAny_spec {a0 a1 : BSet} {L : List As} {H : Heap} {Z : Nat → Prop} (hO : Own H Z L) : HC Try.prog 25 [sv a0, sv a1] H (fun v H' => ∃ (Z' : Nat → Prop), (∀ b, Z b → Z' b) ∧ v = sv (a0.bor a1) ∧ Own H' Z' L) :=
  (Any_spec).mono fun v H' ⟨h1, h2⟩ => ⟨Z, fun _ h => h, h1, hO.ext h2⟩
theorem aw2_spec  {L : List As} {H : Heap} {Z : Nat → Prop} (hO : Own H Z L) : HC Try.prog 32 [] H (fun v H' => ∃ (Z' : Nat → Prop), (∀ b, Z b → Z' b) ∧ v = .bool true ∧ Own H' Z' L) :=
  (awake2_spec).mono fun v H' ⟨h1, h2⟩ => ⟨Z, fun _ h => h, h1, hO.ext h2⟩
theorem lPartMore_ok {l : List BSet} {more : List BSet} {v_1 : Value} {v_3 : Value} {Q : Bool → Prop} {H : Heap} {Z : Nat → Prop} {L : List As} (h : wp_lPartMore l more Q) (hO : Own H Z (L)) (hf_2 : Fz fSet.rep L v_1 l) (hf_4 : Fz fSet.rep L v_3 more) : HC Try.prog 9 [v_1, v_3] H (fun v H' => ∃ (Z' : Nat → Prop) (r0 : Bool) , (∀ b, Z b → Z' b) ∧ Q r0 ∧ v = .bool r0 ∧ Own H' Z' (L)) := by
  have hZ : ∀ b, Z b → Z b := fun _ h => h
  replace hO := Fz.item hf_2 hO
  replace hO := Fz.items [_] hf_4 hO
  unfold wp_lPartMore at h
  refine hc_of_hw (N := 106) (rs := [(.tmp 4)]) Try.func9 rfl rfl rfl rfl ?_
  refine hw_seq ?_
  refine hw_region ?_
  refine hl_v (v_assign rfl) rfl ?_
  refine hl_nil ?_
  refine thenQ_n ?_
  refine hw_sub _ (ai_cons (t := 0) rfl (ai_cons (t := 1) rfl ai_nil)) ?_
  refine hw_seq ?_
  refine hw_seq ?_
  refine hw_region ?_
  refine hl_v (v_move rfl) rfl ?_
  have hln_5 := Sl.cap (hO.fsl 1 rfl)
  refine hl_v (v_lenL rfl Try.underlying48 rfl (hO.fsl 1 rfl)) rfl ?_
  refine hl_v (v_gtr rfl rfl) rfl ?_
  refine hl_v (v_move rfl) rfl ?_
  refine hl_g rfl rfl (fun hg => (v_move rfl)) rfl ?_
  have hln_6 := Sl.cap (hO.fsl 0 rfl)
  refine hl_g rfl rfl (fun hg => (v_lenL rfl Try.underlying48 (gv_ok rfl hg) (hO.fsl 0 rfl))) rfl ?_
  refine hl_g rfl rfl (fun hg => (v_gtr (gv_ok rfl hg) rfl)) rfl ?_
  refine hl_v (v_or rfl rfl) rfl ?_
  refine hl_nil ?_
  refine thenQ_n ?_
  refine hw_sub _ (ai_cons (t := 0) rfl (ai_cons (t := 1) rfl (ai_cons (t := 21) rfl ai_nil))) ?_
  refine hw_cond rfl (fun hc_7 => ?_) (fun hc_7 => ?_)
  · replace h := ite_t h hc_7
    refine hw_seq ?_
    refine hw_region ?_
    refine hl_v (v_assign rfl) rfl ?_
    refine hl_nil ?_
    refine thenQ_n ?_
    refine hw_sub _ (ai_cons (t := 4) rfl ai_nil) ?_
    refine hw_ret ?_
    refine thenQ_r ?_
    refine ret_i _ (ra_t rfl ra_nil) ?_
    exact ⟨_, true, hZ, h, rfl, (Own.sel (Ls := [fz fSet.rep v_3 more, fz fSet.rep v_1 l]) (L := L) [] rfl hO)⟩
  · replace h := ite_f h hc_7
    refine hw_skip ?_
    refine thenQ_n ?_
    refine hw_seq ?_
    refine hw_region ?_
    refine hl_v (v_move rfl) rfl ?_
    refine hl_h (h_call Try.call28 (evs_cons rfl evs_nil) (pParts_spec (a0 := l) hO (Rd.of_fz (i := 1) rfl))) rfl ?_
    rintro vv H_9 ⟨Z_10, v_8, hz_11, hv, hO⟩
    obtain rfl := hv.symm
    replace hZ := fun b hb => hz_11 b (hZ b hb)
    replace hO : Own H_9 Z_10 (own fSet 31 v_8 (pP l) :: fz fSet.rep v_3 more :: fz fSet.rep v_1 l :: L) := hO
    refine hl_v (v_move rfl) rfl ?_
    refine hl_v (v_extract rfl rfl) rfl ?_
    refine hl_v (v_extract rfl rfl) rfl ?_
    refine hl_v (v_assign rfl) rfl ?_
    refine hl_v (v_assign rfl) rfl ?_
    refine hl_nil ?_
    refine thenQ_n ?_
    refine hw_sub _ (ai_cons (t := 0) rfl (ai_cons (t := 1) rfl (ai_cons (t := 5) rfl (ai_cons (t := 6) rfl ai_nil)))) ?_
    refine hw_seq ?_
    refine hw_region ?_
    refine hl_h (o_lit0 (g := fSet) hO Try.underlying48 Try.sizeOf31) rfl ?_
    rintro v_13 H_12 hO
    replace hO : Own H_12 Z_10 (own fSet 31 v_13 [] :: own fSet 31 v_8 (pP l) :: fz fSet.rep v_3 more :: fz fSet.rep v_1 l :: L) := hO
    refine hl_v (v_move rfl) rfl ?_
    obtain ⟨hs_16, h⟩ := h
    refine hl_h (o_append (l2 := l) hO 0 rfl rfl Try.underlying48 Try.type31 rfl rfl rfl rfl rfl rfl rfl (hO.fsl 3 rfl) hs_16 (le63 hs_16 rfl)) rfl ?_
    rintro v_15 H_14 hO
    replace hO : Own H_14 Z_10 (own fSet 31 v_15 ([] ++ l) :: own fSet 31 v_8 (pP l) :: fz fSet.rep v_3 more :: fz fSet.rep v_1 l :: L) := hO
    refine hl_v (v_move rfl) rfl ?_
    obtain ⟨hs_19, h⟩ := h
    refine hl_h (o_append (l2 := more) hO 0 rfl rfl Try.underlying48 Try.type31 rfl rfl rfl rfl rfl rfl rfl (hO.fsl 2 rfl) hs_19 (le63 hs_19 rfl)) rfl ?_
    rintro v_18 H_17 hO
    replace hO : Own H_17 Z_10 (own fSet 31 v_18 (([] ++ l) ++ more) :: own fSet 31 v_8 (pP l) :: fz fSet.rep v_3 more :: fz fSet.rep v_1 l :: L) := hO
    refine hl_h (h_call Try.call28 (evs_cons rfl evs_nil) (pParts_spec (a0 := (([] ++ l) ++ more)) hO (Rd.of_own (i := 0) rfl))) rfl ?_
    rintro vv H_21 ⟨Z_22, v_20, hz_23, hv, hO⟩
    obtain rfl := hv.symm
    replace hZ := fun b hb => hz_23 b (hZ b hb)
    replace hO : Own H_21 Z_22 (own fSet 31 v_20 (pP (([] ++ l) ++ more)) :: own fSet 31 v_18 (([] ++ l) ++ more) :: own fSet 31 v_8 (pP l) :: fz fSet.rep v_3 more :: fz fSet.rep v_1 l :: L) := hO
    refine hl_v (v_move rfl) rfl ?_
    refine hl_v (v_extract rfl rfl) rfl ?_
    refine hl_v (v_extract rfl rfl) rfl ?_
    refine hl_v (v_assign rfl) rfl ?_
    refine hl_v (v_assign rfl) rfl ?_
    refine hl_nil ?_
    refine thenQ_n ?_
    refine hw_sub _ (ai_cons (t := 5) rfl (ai_cons (t := 6) rfl (ai_cons (t := 7) rfl (ai_cons (t := 8) rfl ai_nil)))) ?_
    refine hw_seq ?_
    refine hw_region ?_
    refine hl_v (v_move rfl) rfl ?_
    refine hl_h (h_call Try.call28 (evs_cons rfl evs_nil) (pParts_spec (a0 := pP l) hO (Rd.of_own (i := 2) rfl))) rfl ?_
    rintro vv H_25 ⟨Z_26, v_24, hz_27, hv, hO⟩
    obtain rfl := hv.symm
    replace hZ := fun b hb => hz_27 b (hZ b hb)
    replace hO : Own H_25 Z_26 (own fSet 31 v_24 (pP (pP l)) :: own fSet 31 v_20 (pP (([] ++ l) ++ more)) :: own fSet 31 v_18 (([] ++ l) ++ more) :: own fSet 31 v_8 (pP l) :: fz fSet.rep v_3 more :: fz fSet.rep v_1 l :: L) := hO
    refine hl_v (v_move rfl) rfl ?_
    refine hl_v (v_extract rfl rfl) rfl ?_
    refine hl_v (v_extract rfl rfl) rfl ?_
    refine hl_v (v_assign rfl) rfl ?_
    refine hl_v (v_assign rfl) rfl ?_
    refine hl_nil ?_
    refine thenQ_n ?_
    refine hw_sub _ (ai_cons (t := 5) rfl (ai_cons (t := 6) rfl (ai_cons (t := 7) rfl (ai_cons (t := 8) rfl (ai_cons (t := 9) rfl (ai_cons (t := 10) rfl ai_nil)))))) ?_
    refine hw_seq ?_
    refine hw_seq ?_
    refine hw_region ?_
    refine hl_v (v_move rfl) rfl ?_
    refine hl_v (v_neq rfl rfl) rfl ?_
    refine hl_v (v_move rfl) rfl ?_
    refine hl_g rfl rfl (fun hg => (v_move rfl)) rfl ?_
    refine hl_g rfl rfl (fun hg => (v_neq (gv_ok rfl hg) rfl)) rfl ?_
    refine hl_v (v_or rfl rfl) rfl ?_
    refine hl_v (v_move rfl) rfl ?_
    refine hl_g rfl rfl (fun hg => (v_move rfl)) rfl ?_
    refine hl_g rfl rfl (fun hg => (v_neq (gv_ok rfl hg) rfl)) rfl ?_
    refine hl_v (v_or rfl rfl) rfl ?_
    refine hl_v (v_move rfl) rfl ?_
    refine hl_g rfl rfl (fun hg => (v_move rfl)) rfl ?_
    refine hl_g rfl rfl (fun hg => (v_move rfl)) rfl ?_
    refine hl_gc (v := .bool (decide ((pP l) = (pP (pP l))))) (R := fun H' => ∃ Z' : Nat → Prop, (∀ b, Z_26 b → Z' b) ∧ Own H' Z' (own fSet 31 v_24 (pP (pP l)) :: own fSet 31 v_20 (pP (([] ++ l) ++ more)) :: own fSet 31 v_18 (([] ++ l) ++ more) :: own fSet 31 v_8 (pP l) :: fz fSet.rep v_3 more :: fz fSet.rep v_1 l :: L)) rfl rfl (fun hg => OpH.mono (h_call Try.call33 (evs_cons (gv_ok rfl hg) (evs_cons (gv_ok rfl hg) evs_nil)) (rSame_spec (a0 := pP l) (a1 := pP (pP l)) hO (Rd.of_own (i := 3) rfl) (Rd.of_own (i := 0) rfl))) (by rintro _ H' ⟨Z', hz, rfl, hO⟩; exact ⟨rfl, Z', hz, hO⟩)) ⟨_, fun _ h => h, hO⟩ rfl ?_
    rintro H_28 ⟨Z_29, hz_30, hO⟩
    replace hZ := fun b hb => hz_30 b (hZ b hb)
    replace hO : Own H_28 Z_29 (own fSet 31 v_24 (pP (pP l)) :: own fSet 31 v_20 (pP (([] ++ l) ++ more)) :: own fSet 31 v_18 (([] ++ l) ++ more) :: own fSet 31 v_8 (pP l) :: fz fSet.rep v_3 more :: fz fSet.rep v_1 l :: L) := hO
    refine hl_g rfl rfl (fun hg => (v_not (gv_ok rfl hg))) rfl ?_
    refine hl_v (v_or rfl rfl) rfl ?_
    refine hl_nil ?_
    refine thenQ_n ?_
    refine hw_sub _ (ai_cons (t := 5) rfl (ai_cons (t := 7) rfl (ai_cons (t := 56) rfl ai_nil))) ?_
    refine hw_cond rfl (fun hc_31 => ?_) (fun hc_31 => ?_)
    · replace h := ite_t h hc_31
      refine hw_seq ?_
      refine hw_region ?_
      refine hl_v (v_assign rfl) rfl ?_
      refine hl_nil ?_
      refine thenQ_n ?_
      refine hw_sub _ (ai_cons (t := 4) rfl ai_nil) ?_
      refine hw_ret ?_
      refine thenQ_r ?_
      refine ret_i _ (ra_t rfl ra_nil) ?_
      exact ⟨_, false, hZ, h, rfl, (Own.sel (Ls := [own fSet 31 v_24 (pP (pP l)), own fSet 31 v_20 (pP (([] ++ l) ++ more)), own fSet 31 v_18 (([] ++ l) ++ more), own fSet 31 v_8 (pP l), fz fSet.rep v_3 more, fz fSet.rep v_1 l]) (L := L) [] rfl hO)⟩
    · replace h := ite_f h hc_31
      refine hw_skip ?_
      refine thenQ_n ?_
      refine hw_seq ?_
      refine hw_seq ?_
      refine hw_region ?_
      refine hl_v (v_assign rfl) rfl ?_
      refine hl_nil ?_
      refine thenQ_n ?_
      refine hw_sub _ (ai_cons (t := 5) rfl (ai_cons (t := 7) rfl (ai_cons (t := 11) rfl ai_nil))) ?_
      refine hw_block ?_
      obtain ⟨I_32, h, hI_34⟩ := h
      refine hw_lp (fun n' g' H' => ∃ (i : Nat) (Z' : Nat → Prop), n' = (pP (([] ++ l) ++ more)).length - i ∧ g' = [(5, v_8), (7, v_20), (11, .int .i64 (i : Int))] ∧ (∀ b, Z b → Z' b) ∧ I_32 i ∧ i ≤ (pP (([] ++ l) ++ more)).length ∧ Own H' Z' (own fSet 31 v_20 (pP (([] ++ l) ++ more)) :: own fSet 31 v_8 (pP l) :: L)) _ _ (ai_cons (t := 5) rfl (ai_cons (t := 7) rfl (ai_cons (t := 11) rfl ai_nil))) ⟨0, _, rfl, rfl, hZ, h, by omega, (Own.sel (Ls := [own fSet 31 v_24 (pP (pP l)), own fSet 31 v_20 (pP (([] ++ l) ++ more)), own fSet 31 v_18 (([] ++ l) ++ more), own fSet 31 v_8 (pP l), fz fSet.rep v_3 more, fz fSet.rep v_1 l]) (L := L) [1, 3] rfl hO)⟩ ?_
      rintro _ _ H_35 ⟨i, Z_36, rfl, rfl, hZ, h, hb_37, hO⟩
      replace h := hI_34 i h hb_37
      refine hw_seq ?_
      refine hw_seq ?_
      refine hw_region ?_
      refine hl_v (v_move rfl) rfl ?_
      refine hl_v (v_move rfl) rfl ?_
      have hln_38 := Sl.cap (hO.osl 0 rfl)
      refine hl_v (v_lenL rfl Try.underlying48 rfl (hO.osl 0 rfl)) rfl ?_
      refine hl_v (v_lss rfl rfl) rfl ?_
      refine hl_nil ?_
      refine thenQ_n ?_
      refine hw_sub _ (ai_cons (t := 5) rfl (ai_cons (t := 7) rfl (ai_cons (t := 11) rfl (ai_cons (t := 60) rfl ai_nil)))) ?_
      refine hw_cond rfl (fun hc_39 => ?_) (fun hc_39 => ?_)
      · replace h := ite_t h hc_39
        refine hw_skip ?_
        refine thenQ_n ?_
        refine hw_seq ?_
        refine hw_block ?_
        refine hw_seq ?_
        refine hw_region ?_
        refine hl_v (v_assign rfl) rfl ?_
        refine hl_nil ?_
        refine thenQ_n ?_
        refine hw_sub _ (ai_cons (t := 5) rfl (ai_cons (t := 7) rfl (ai_cons (t := 11) rfl (ai_cons (t := 12) rfl ai_nil)))) ?_
        refine hw_seq ?_
        refine hw_seq ?_
        refine hw_region ?_
        refine hl_v (v_assign rfl) rfl ?_
        refine hl_nil ?_
        refine thenQ_n ?_
        refine hw_sub _ (ai_cons (t := 5) rfl (ai_cons (t := 7) rfl (ai_cons (t := 11) rfl (ai_cons (t := 12) rfl (ai_cons (t := 13) rfl ai_nil))))) ?_
        refine hw_block ?_
        obtain ⟨I_40, h, hI_42⟩ := h
        refine hw_lp (fun n' g' H' => ∃ (n : Int) (k : Nat) (Z' : Nat → Prop), n' = (pP l).length - k ∧ g' = [(5, v_8), (7, v_20), (11, .int .i64 (i : Int)), (12, .int .i64 n), (13, .int .i64 (k : Int))] ∧ (∀ b, Z b → Z' b) ∧ I_40 n k ∧ k ≤ (pP l).length ∧ Own H' Z' (own fSet 31 v_20 (pP (([] ++ l) ++ more)) :: own fSet 31 v_8 (pP l) :: L)) _ _ (ai_cons (t := 5) rfl (ai_cons (t := 7) rfl (ai_cons (t := 11) rfl (ai_cons (t := 12) rfl (ai_cons (t := 13) rfl ai_nil))))) ⟨0, 0, _, rfl, rfl, hZ, h, by omega, hO⟩ ?_
        rintro _ _ H_43 ⟨n, k, Z_44, rfl, rfl, hZ, h, hb_45, hO⟩
        replace h := hI_42 n k h hb_45
        refine hw_seq ?_
        refine hw_seq ?_
        refine hw_region ?_
        refine hl_v (v_move rfl) rfl ?_
        refine hl_v (v_move rfl) rfl ?_
        have hln_46 := Sl.cap (hO.osl 1 rfl)
        refine hl_v (v_lenL rfl Try.underlying48 rfl (hO.osl 1 rfl)) rfl ?_
        refine hl_v (v_lss rfl rfl) rfl ?_
        refine hl_nil ?_
        refine thenQ_n ?_
        refine hw_sub _ (ai_cons (t := 5) rfl (ai_cons (t := 7) rfl (ai_cons (t := 11) rfl (ai_cons (t := 12) rfl (ai_cons (t := 13) rfl (ai_cons (t := 66) rfl ai_nil)))))) ?_
        refine hw_cond rfl (fun hc_47 => ?_) (fun hc_47 => ?_)
        · replace h := ite_t h hc_47
          refine hw_skip ?_
          refine thenQ_n ?_
          refine hw_seq ?_
          refine hw_block ?_
          refine hw_seq ?_
          refine hw_held (fun H' => ∃ Z' : Nat → Prop, Own H' Z' (own fSet 31 v_20 (pP (([] ++ l) ++ more)) :: own fSet 31 v_8 (pP l) :: L)) (.step 0 false (.step 1 false (.step 2 false (.step 3 false (.step 4 false (.step 5 false (.step 6 false (.step 7 false (.step 9 false (.step 10 false (.step 11 false (.step 12 false (.step 8 true (.step 13 false .done)))))))))))))) Try.mixed (by kernel_rfl) ⟨_, hO⟩ ?_
          refine hd_v rfl (fun H' hS => by obtain ⟨Z', hO⟩ := hS; exact (v_move rfl)) rfl ?_
          refine hd_v rfl (fun H' hS => by obtain ⟨Z', hO⟩ := hS; exact (v_move rfl)) rfl ?_
          refine hd_v rfl (fun H' hS => by obtain ⟨Z', hO⟩ := hS; exact (v_ixL Try.underlying48 Try.sizeOf31 rfl rfl (hO.osl 1 rfl) (by exact ⟨Int.natCast_nonneg _, of_decide_eq_true hc_47⟩))) rfl ?_
          refine hd_v rfl (fun H' hS => by obtain ⟨Z', hO⟩ := hS; exact (v_loadFl Try.isAgg31 Try.sizeOf31 rfl (hO.osl 1 rfl) rfl (by exact ⟨Int.natCast_nonneg _, of_decide_eq_true hc_47⟩))) rfl ?_
          refine hd_v rfl (fun H' hS => by obtain ⟨Z', hO⟩ := hS; exact (v_move rfl)) rfl ?_
          refine hd_v rfl (fun H' hS => by obtain ⟨Z', hO⟩ := hS; exact (v_move rfl)) rfl ?_
          refine hd_v rfl (fun H' hS => by obtain ⟨Z', hO⟩ := hS; exact (v_ixL Try.underlying48 Try.sizeOf31 rfl rfl (hO.osl 0 rfl) (by exact ⟨Int.natCast_nonneg _, of_decide_eq_true hc_39⟩))) rfl ?_
          refine hd_v rfl (fun H' hS => by obtain ⟨Z', hO⟩ := hS; exact (v_loadFl Try.isAgg31 Try.sizeOf31 rfl (hO.osl 0 rfl) rfl (by exact ⟨Int.natCast_nonneg _, of_decide_eq_true hc_39⟩))) rfl ?_
          refine hd_v rfl (fun H' hS => by obtain ⟨Z', hO⟩ := hS; exact (v_move rfl)) rfl ?_
          refine hd_v rfl (fun H' hS => by obtain ⟨Z', hO⟩ := hS; exact (v_move rfl)) rfl ?_
          refine hd_v rfl (fun H' hS => by obtain ⟨Z', hO⟩ := hS; exact (v_ixL Try.underlying48 Try.sizeOf31 rfl rfl (hO.osl 0 rfl) (by exact ⟨Int.natCast_nonneg _, of_decide_eq_true hc_39⟩))) rfl ?_
          refine hd_v rfl (fun H' hS => by obtain ⟨Z', hO⟩ := hS; exact (v_loadFl Try.isAgg31 Try.sizeOf31 rfl (hO.osl 0 rfl) rfl (by exact ⟨Int.natCast_nonneg _, of_decide_eq_true hc_39⟩))) rfl ?_
          refine hd_h (h_call Try.call35 (evs_cons rfl (evs_cons rfl evs_nil)) (sBoth_spec (a0 := ((pP l).getD k default)) (a1 := ((pP (([] ++ l) ++ more)).getD i default)) hO)) (by rintro vv H_48 ⟨Z_49, hz_50, hv, hO⟩; obtain rfl := hv.symm; replace hZ := fun b hb => hz_50 b (hZ b hb); replace hO : Own H_48 Z_49 (own fSet 31 v_20 (pP (([] ++ l) ++ more)) :: own fSet 31 v_8 (pP l) :: L) := hO; exact ⟨_, hO⟩) rfl ?_
          rintro vv H_48 ⟨Z_49, hz_50, hv, hO⟩
          obtain rfl := hv.symm
          replace hZ := fun b hb => hz_50 b (hZ b hb)
          replace hO : Own H_48 Z_49 (own fSet 31 v_20 (pP (([] ++ l) ++ more)) :: own fSet 31 v_8 (pP l) :: L) := hO
          refine hd_v rfl (fun H' hS => by obtain ⟨Z', hO⟩ := hS; exact (v_eqlSet Try.underlying31 Try.underlying29 Try.sizeOf29 (by kernel_rfl) rfl rfl)) rfl ?_
          refine hd_nil ?_
          refine thenQ_n ?_
          refine hw_sub _ (ai_cons (t := 5) rfl (ai_cons (t := 7) rfl (ai_cons (t := 11) rfl (ai_cons (t := 12) rfl (ai_cons (t := 13) rfl (ai_cons (t := 82) rfl ai_nil)))))) ?_
          refine hw_cond rfl (fun hc_51 => ?_) (fun hc_51 => ?_)
          · replace h := ite_t h hc_51
            refine hw_region ?_
            refine hl_v (v_move rfl) rfl ?_
            obtain ⟨hs_52, h⟩ := h
            refine hl_v (v_add rfl rfl hs_52) rfl ?_
            refine hl_v (v_assign rfl) rfl ?_
            refine hl_nil ?_
            refine blockQ_n ?_
            refine thenQ_n ?_
            refine hw_region ?_
            refine hl_v (v_move rfl) rfl ?_
            refine hl_v (v_add rfl rfl (by have hq := of_decide_eq_true hc_47; have hm := hln_46; constructor <;> omega)) rfl ?_
            refine hl_v (v_assign rfl) rfl ?_
            refine hl_nil ?_
            refine thenQ_n ?_
            exact ⟨_, _, (ai_cons (t := 5) rfl (ai_cons (t := 7) rfl (ai_cons (t := 11) rfl (ai_cons (t := 12) rfl (ai_cons (t := 13) rfl ai_nil))))), ⟨(n + 1), k + 1, _, rfl, rfl, hZ, h, (by have hq := of_decide_eq_true hc_47; omega), hO⟩, (by have hq := of_decide_eq_true hc_47; omega)⟩
          · replace h := ite_f h hc_51
            refine hw_seq ?_
            refine hw_held (fun H' => ∃ Z' : Nat → Prop, Own H' Z' (own fSet 31 v_20 (pP (([] ++ l) ++ more)) :: own fSet 31 v_8 (pP l) :: L)) (.step 0 false (.step 1 false (.step 2 false (.step 3 false (.step 4 false (.step 5 false (.step 6 false (.step 7 false (.step 9 false (.step 8 true (.step 10 false .done))))))))))) Try.mixed (by kernel_rfl) ⟨_, hO⟩ ?_
            refine hd_v rfl (fun H' hS => by obtain ⟨Z', hO⟩ := hS; exact (v_move rfl)) rfl ?_
            refine hd_v rfl (fun H' hS => by obtain ⟨Z', hO⟩ := hS; exact (v_move rfl)) rfl ?_
            refine hd_v rfl (fun H' hS => by obtain ⟨Z', hO⟩ := hS; exact (v_ixL Try.underlying48 Try.sizeOf31 rfl rfl (hO.osl 1 rfl) (by exact ⟨Int.natCast_nonneg _, of_decide_eq_true hc_47⟩))) rfl ?_
            refine hd_v rfl (fun H' hS => by obtain ⟨Z', hO⟩ := hS; exact (v_loadFl Try.isAgg31 Try.sizeOf31 rfl (hO.osl 1 rfl) rfl (by exact ⟨Int.natCast_nonneg _, of_decide_eq_true hc_47⟩))) rfl ?_
            refine hd_v rfl (fun H' hS => by obtain ⟨Z', hO⟩ := hS; exact (v_move rfl)) rfl ?_
            refine hd_v rfl (fun H' hS => by obtain ⟨Z', hO⟩ := hS; exact (v_move rfl)) rfl ?_
            refine hd_v rfl (fun H' hS => by obtain ⟨Z', hO⟩ := hS; exact (v_ixL Try.underlying48 Try.sizeOf31 rfl rfl (hO.osl 0 rfl) (by exact ⟨Int.natCast_nonneg _, of_decide_eq_true hc_39⟩))) rfl ?_
            refine hd_v rfl (fun H' hS => by obtain ⟨Z', hO⟩ := hS; exact (v_loadFl Try.isAgg31 Try.sizeOf31 rfl (hO.osl 0 rfl) rfl (by exact ⟨Int.natCast_nonneg _, of_decide_eq_true hc_39⟩))) rfl ?_
            refine hd_v rfl (fun H' hS => by obtain ⟨Z', hO⟩ := hS; exact (v_buildS0 Try.underlying31 Try.zeroValue31 Try.sizeOf29)) rfl ?_
            refine hd_h (h_call Try.call35 (evs_cons rfl (evs_cons rfl evs_nil)) (sBoth_spec (a0 := ((pP l).getD k default)) (a1 := ((pP (([] ++ l) ++ more)).getD i default)) hO)) (by rintro vv H_53 ⟨Z_54, hz_55, hv, hO⟩; obtain rfl := hv.symm; replace hZ := fun b hb => hz_55 b (hZ b hb); replace hO : Own H_53 Z_54 (own fSet 31 v_20 (pP (([] ++ l) ++ more)) :: own fSet 31 v_8 (pP l) :: L) := hO; exact ⟨_, hO⟩) rfl ?_
            rintro vv H_53 ⟨Z_54, hz_55, hv, hO⟩
            obtain rfl := hv.symm
            replace hZ := fun b hb => hz_55 b (hZ b hb)
            replace hO : Own H_53 Z_54 (own fSet 31 v_20 (pP (([] ++ l) ++ more)) :: own fSet 31 v_8 (pP l) :: L) := hO
            refine hd_v rfl (fun H' hS => by obtain ⟨Z', hO⟩ := hS; exact (v_neqSet Try.underlying31 Try.underlying29 Try.sizeOf29 (by kernel_rfl) rfl rfl)) rfl ?_
            refine hd_nil ?_
            refine thenQ_n ?_
            refine hw_sub _ (ai_cons (t := 5) rfl (ai_cons (t := 7) rfl (ai_cons (t := 11) rfl (ai_cons (t := 12) rfl (ai_cons (t := 13) rfl (ai_cons (t := 95) rfl ai_nil)))))) ?_
            refine hw_cond rfl (fun hc_56 => ?_) (fun hc_56 => ?_)
            · replace h := ite_t h hc_56
              refine hw_seq ?_
              refine hw_region ?_
              refine hl_v (v_assign rfl) rfl ?_
              refine hl_nil ?_
              refine thenQ_n ?_
              refine hw_sub _ (ai_cons (t := 4) rfl ai_nil) ?_
              refine hw_ret ?_
              refine blockQ_r ?_
              refine thenQ_r ?_
              refine thenQ_r ?_
              refine blockQ_r ?_
              refine thenQ_r ?_
              refine blockQ_r ?_
              refine thenQ_r ?_
              refine thenQ_r ?_
              refine blockQ_r ?_
              refine thenQ_r ?_
              refine ret_i _ (ra_t rfl ra_nil) ?_
              exact ⟨_, false, hZ, h, rfl, (Own.sel (Ls := [own fSet 31 v_20 (pP (([] ++ l) ++ more)), own fSet 31 v_8 (pP l)]) (L := L) [] rfl hO)⟩
            · replace h := ite_f h hc_56
              refine hw_skip ?_
              refine blockQ_n ?_
              refine thenQ_n ?_
              refine hw_region ?_
              refine hl_v (v_move rfl) rfl ?_
              refine hl_v (v_add rfl rfl (by have hq := of_decide_eq_true hc_47; have hm := hln_46; constructor <;> omega)) rfl ?_
              refine hl_v (v_assign rfl) rfl ?_
              refine hl_nil ?_
              refine thenQ_n ?_
              exact ⟨_, _, (ai_cons (t := 5) rfl (ai_cons (t := 7) rfl (ai_cons (t := 11) rfl (ai_cons (t := 12) rfl (ai_cons (t := 13) rfl ai_nil))))), ⟨n, k + 1, _, rfl, rfl, hZ, h, (by have hq := of_decide_eq_true hc_47; omega), hO⟩, (by have hq := of_decide_eq_true hc_47; omega)⟩
        · replace h := ite_f h hc_47
          refine hw_exit ?_
          refine thenQ_e ?_
          refine thenQ_e ?_
          refine blockQ_hit ?_
          refine thenQ_n ?_
          refine hw_seq ?_
          refine hw_region ?_
          refine hl_v (v_move rfl) rfl ?_
          refine hl_v (v_neq rfl rfl) rfl ?_
          refine hl_nil ?_
          refine thenQ_n ?_
          refine hw_sub _ (ai_cons (t := 5) rfl (ai_cons (t := 7) rfl (ai_cons (t := 11) rfl (ai_cons (t := 97) rfl ai_nil)))) ?_
          refine hw_cond rfl (fun hc_57 => ?_) (fun hc_57 => ?_)
          · replace h := ite_t h hc_57
            refine hw_seq ?_
            refine hw_region ?_
            refine hl_v (v_assign rfl) rfl ?_
            refine hl_nil ?_
            refine thenQ_n ?_
            refine hw_sub _ (ai_cons (t := 4) rfl ai_nil) ?_
            refine hw_ret ?_
            refine blockQ_r ?_
            refine thenQ_r ?_
            refine thenQ_r ?_
            refine blockQ_r ?_
            refine thenQ_r ?_
            refine ret_i _ (ra_t rfl ra_nil) ?_
            exact ⟨_, false, hZ, h, rfl, (Own.sel (Ls := [own fSet 31 v_20 (pP (([] ++ l) ++ more)), own fSet 31 v_8 (pP l)]) (L := L) [] rfl hO)⟩
          · replace h := ite_f h hc_57
            refine hw_skip ?_
            refine blockQ_n ?_
            refine thenQ_n ?_
            refine hw_region ?_
            refine hl_v (v_move rfl) rfl ?_
            refine hl_v (v_add rfl rfl (by have hq := of_decide_eq_true hc_39; have hm := hln_38; constructor <;> omega)) rfl ?_
            refine hl_v (v_assign rfl) rfl ?_
            refine hl_nil ?_
            refine thenQ_n ?_
            exact ⟨_, _, (ai_cons (t := 5) rfl (ai_cons (t := 7) rfl (ai_cons (t := 11) rfl ai_nil))), ⟨i + 1, _, rfl, rfl, hZ, h, (by have hq := of_decide_eq_true hc_39; omega), hO⟩, (by have hq := of_decide_eq_true hc_39; omega)⟩
      · replace h := ite_f h hc_39
        refine hw_exit ?_
        refine thenQ_e ?_
        refine thenQ_e ?_
        refine blockQ_hit ?_
        refine thenQ_n ?_
        refine hw_seq ?_
        refine hw_region ?_
        refine hl_h (h_call Try.call32 evs_nil (aw2_spec  hO)) rfl ?_
        rintro vv H_58 ⟨Z_59, hz_60, hv, hO⟩
        obtain rfl := hv.symm
        replace hZ := fun b hb => hz_60 b (hZ b hb)
        replace hO : Own H_58 Z_59 (own fSet 31 v_20 (pP (([] ++ l) ++ more)) :: own fSet 31 v_8 (pP l) :: L) := hO
        refine hl_v (v_move rfl) rfl ?_
        refine hl_g rfl rfl (fun hg => (v_move rfl)) rfl ?_
        refine hl_g rfl rfl (fun hg => (v_lenL rfl Try.underlying48 (gv_ok rfl hg) (hO.osl 0 rfl))) rfl ?_
        refine hl_g rfl rfl (fun hg => (v_move rfl)) rfl ?_
        have hln_61 := Sl.cap (hO.osl 1 rfl)
        refine hl_g rfl rfl (fun hg => (v_lenL rfl Try.underlying48 (gv_ok rfl hg) (hO.osl 1 rfl))) rfl ?_
        refine hl_g rfl rfl (fun hg => (v_geq (gv_ok rfl hg) (gv_ok rfl hg))) rfl ?_
        refine hl_v (v_and rfl rfl) rfl ?_
        refine hl_v (v_assign rfl) rfl ?_
        refine hl_nil ?_
        refine thenQ_n ?_
        refine hw_sub _ (ai_cons (t := 4) rfl ai_nil) ?_
        refine hw_ret ?_
        refine ret_i _ (ra_t rfl ra_nil) ?_
        exact ⟨_, (true && decide (((pP l).length : Int) ≤ ((pP (([] ++ l) ++ more)).length : Int))), hZ, h, rfl, (Own.sel (Ls := [own fSet 31 v_20 (pP (([] ++ l) ++ more)), own fSet 31 v_8 (pP l)]) (L := L) [] rfl hO)⟩
theorem lPartMore_spec {a0 : List BSet} {a1 : List BSet} {v_1 : Value} {v_3 : Value} {L : List As} {H : Heap} {Z : Nat → Prop} (hO : Own H Z (L)) (hf_2 : Fz fSet.rep L v_1 a0) (hf_4 : Fz fSet.rep L v_3 a1) : HC Try.prog 9 [v_1, v_3] H (fun v H' => ∃ (Z' : Nat → Prop) , (∀ b, Z b → Z' b) ∧ v = .bool (true) ∧ Own H' Z' (L)) := by
  refine (lPartMore_ok (l := a0) (more := a1) (@lPartMore_wp a0 a1) hO hf_2 hf_4).mono ?_
  rintro v H' ⟨Z', r0, hz, hq, hv, hO'⟩
  obtain rfl := hq
  exact ⟨Z', hz, hv, hO'⟩

theorem lPartBack_ok {l : List BSet} {xclass : List Int} {v_1 : Value} {v_3 : Value} {Q : Bool → Prop} {H : Heap} {Z : Nat → Prop} {L : List As} (h : wp_lPartBack l xclass Q) (hO : Own H Z (L)) (hf_2 : Fz fSet.rep L v_1 l) (hf_4 : Fz fInt.rep L v_3 xclass) : HC Try.prog 13 [v_1, v_3] H (fun v H' => ∃ (Z' : Nat → Prop) (r0 : Bool) , (∀ b, Z b → Z' b) ∧ Q r0 ∧ v = .bool r0 ∧ Own H' Z' (L)) := by
  have hZ : ∀ b, Z b → Z b := fun _ h => h
  replace hO := Fz.item hf_2 hO
  replace hO := Fz.items [_] hf_4 hO
  unfold wp_lPartBack at h
  refine hc_of_hw (N := 141) (rs := [(.tmp 4)]) Try.func13 rfl rfl rfl rfl ?_
  refine hw_seq ?_
  refine hw_region ?_
  refine hl_v (v_assign rfl) rfl ?_
  refine hl_nil ?_
  refine thenQ_n ?_
  refine hw_sub _ (ai_cons (t := 0) rfl (ai_cons (t := 1) rfl ai_nil)) ?_
  refine hw_seq ?_
  refine hw_seq ?_
  refine hw_region ?_
  refine hl_v (v_move rfl) rfl ?_
  have hln_5 := Sl.cap (hO.fsl 1 rfl)
  refine hl_v (v_lenL rfl Try.underlying48 rfl (hO.fsl 1 rfl)) rfl ?_
  refine hl_v (v_gtr rfl rfl) rfl ?_
  refine hl_v (v_move rfl) rfl ?_
  refine hl_g rfl rfl (fun hg => (v_move rfl)) rfl ?_
  have hln_6 := Sl.cap (hO.fsl 0 rfl)
  refine hl_g rfl rfl (fun hg => (v_lenL rfl Try.underlying51 (gv_ok rfl hg) (hO.fsl 0 rfl))) rfl ?_
  refine hl_g rfl rfl (fun hg => (v_gtr (gv_ok rfl hg) rfl)) rfl ?_
  refine hl_v (v_or rfl rfl) rfl ?_
  refine hl_nil ?_
  refine thenQ_n ?_
  refine hw_sub _ (ai_cons (t := 0) rfl (ai_cons (t := 1) rfl (ai_cons (t := 27) rfl ai_nil))) ?_
  refine hw_cond rfl (fun hc_7 => ?_) (fun hc_7 => ?_)
  · replace h := ite_t h hc_7
    refine hw_seq ?_
    refine hw_region ?_
    refine hl_v (v_assign rfl) rfl ?_
    refine hl_nil ?_
    refine thenQ_n ?_
    refine hw_sub _ (ai_cons (t := 4) rfl ai_nil) ?_
    refine hw_ret ?_
    refine thenQ_r ?_
    refine ret_i _ (ra_t rfl ra_nil) ?_
    exact ⟨_, true, hZ, h, rfl, (Own.sel (Ls := [fz fInt.rep v_3 xclass, fz fSet.rep v_1 l]) (L := L) [] rfl hO)⟩
  · replace h := ite_f h hc_7
    refine hw_skip ?_
    refine thenQ_n ?_
    refine hw_seq ?_
    refine hw_region ?_
    refine hl_v (v_move rfl) rfl ?_
    refine hl_h (h_call Try.call28 (evs_cons rfl evs_nil) (pParts_spec (a0 := l) hO (Rd.of_fz (i := 1) rfl))) rfl ?_
    rintro vv H_9 ⟨Z_10, v_8, hz_11, hv, hO⟩
    obtain rfl := hv.symm
    replace hZ := fun b hb => hz_11 b (hZ b hb)
    replace hO : Own H_9 Z_10 (own fSet 31 v_8 (pP l) :: fz fInt.rep v_3 xclass :: fz fSet.rep v_1 l :: L) := hO
    refine hl_v (v_move rfl) rfl ?_
    refine hl_v (v_extract rfl rfl) rfl ?_
    refine hl_v (v_extract rfl rfl) rfl ?_
    refine hl_v (v_assign rfl) rfl ?_
    refine hl_v (v_assign rfl) rfl ?_
    refine hl_nil ?_
    refine thenQ_n ?_
    refine hw_sub _ (ai_cons (t := 0) rfl (ai_cons (t := 1) rfl (ai_cons (t := 5) rfl (ai_cons (t := 6) rfl ai_nil)))) ?_
    refine hw_seq ?_
    refine hw_region ?_
    refine hl_v (v_move rfl) rfl ?_
    refine hl_h (h_call Try.call30 (evs_cons rfl evs_nil) (pClass_spec (a0 := pP l) hO (Rd.of_own (i := 0) rfl))) rfl ?_
    rintro vv H_13 ⟨Z_14, v_12, hz_15, hv, hO⟩
    obtain rfl := hv.symm
    replace hZ := fun b hb => hz_15 b (hZ b hb)
    replace hO : Own H_13 Z_14 (own fInt 3 v_12 (cC (pP l)) :: own fSet 31 v_8 (pP l) :: fz fInt.rep v_3 xclass :: fz fSet.rep v_1 l :: L) := hO
    refine hl_v (v_move rfl) rfl ?_
    refine hl_v (v_extract rfl rfl) rfl ?_
    refine hl_v (v_extract rfl rfl) rfl ?_
    refine hl_v (v_assign rfl) rfl ?_
    refine hl_v (v_assign rfl) rfl ?_
    refine hl_nil ?_
    refine thenQ_n ?_
    refine hw_sub _ (ai_cons (t := 0) rfl (ai_cons (t := 1) rfl (ai_cons (t := 5) rfl (ai_cons (t := 6) rfl (ai_cons (t := 7) rfl (ai_cons (t := 8) rfl ai_nil)))))) ?_
    refine hw_seq ?_
    refine hw_region ?_
    refine hl_v (v_move rfl) rfl ?_
    refine hl_h (h_call Try.call44 (evs_cons rfl evs_nil) (pSets_spec (a0 := cC (pP l)) hO (Rd.of_own (i := 0) rfl))) rfl ?_
    rintro vv H_17 ⟨Z_18, v_16, hz_19, hv, hO⟩
    obtain rfl := hv.symm
    replace hZ := fun b hb => hz_19 b (hZ b hb)
    replace hO : Own H_17 Z_18 (own fSet 31 v_16 (sS (cC (pP l))) :: own fInt 3 v_12 (cC (pP l)) :: own fSet 31 v_8 (pP l) :: fz fInt.rep v_3 xclass :: fz fSet.rep v_1 l :: L) := hO
    refine hl_v (v_move rfl) rfl ?_
    refine hl_v (v_extract rfl rfl) rfl ?_
    refine hl_v (v_extract rfl rfl) rfl ?_
    refine hl_v (v_assign rfl) rfl ?_
    refine hl_v (v_assign rfl) rfl ?_
    refine hl_nil ?_
    refine thenQ_n ?_
    refine hw_sub _ (ai_cons (t := 0) rfl (ai_cons (t := 1) rfl (ai_cons (t := 5) rfl (ai_cons (t := 6) rfl (ai_cons (t := 8) rfl (ai_cons (t := 9) rfl (ai_cons (t := 10) rfl ai_nil))))))) ?_
    refine hw_seq ?_
    refine hw_seq ?_
    refine hw_region ?_
    refine hl_v (v_move rfl) rfl ?_
    refine hl_v (v_neq rfl rfl) rfl ?_
    refine hl_v (v_move rfl) rfl ?_
    refine hl_g rfl rfl (fun hg => (v_move rfl)) rfl ?_
    refine hl_g rfl rfl (fun hg => (v_neq (gv_ok rfl hg) rfl)) rfl ?_
    refine hl_v (v_or rfl rfl) rfl ?_
    refine hl_v (v_move rfl) rfl ?_
    refine hl_g rfl rfl (fun hg => (v_move rfl)) rfl ?_
    refine hl_g rfl rfl (fun hg => (v_neq (gv_ok rfl hg) rfl)) rfl ?_
    refine hl_v (v_or rfl rfl) rfl ?_
    refine hl_v (v_move rfl) rfl ?_
    refine hl_g rfl rfl (fun hg => (v_move rfl)) rfl ?_
    refine hl_g rfl rfl (fun hg => (v_move rfl)) rfl ?_
    refine hl_gc (v := .bool (decide ((pP l) = (sS (cC (pP l)))))) (R := fun H' => ∃ Z' : Nat → Prop, (∀ b, Z_18 b → Z' b) ∧ Own H' Z' (own fSet 31 v_16 (sS (cC (pP l))) :: own fInt 3 v_12 (cC (pP l)) :: own fSet 31 v_8 (pP l) :: fz fInt.rep v_3 xclass :: fz fSet.rep v_1 l :: L)) rfl rfl (fun hg => OpH.mono (h_call Try.call33 (evs_cons (gv_ok rfl hg) (evs_cons (gv_ok rfl hg) evs_nil)) (rSame_spec (a0 := pP l) (a1 := sS (cC (pP l))) hO (Rd.of_own (i := 2) rfl) (Rd.of_own (i := 0) rfl))) (by rintro _ H' ⟨Z', hz, rfl, hO⟩; exact ⟨rfl, Z', hz, hO⟩)) ⟨_, fun _ h => h, hO⟩ rfl ?_
    rintro H_20 ⟨Z_21, hz_22, hO⟩
    replace hZ := fun b hb => hz_22 b (hZ b hb)
    replace hO : Own H_20 Z_21 (own fSet 31 v_16 (sS (cC (pP l))) :: own fInt 3 v_12 (cC (pP l)) :: own fSet 31 v_8 (pP l) :: fz fInt.rep v_3 xclass :: fz fSet.rep v_1 l :: L) := hO
    refine hl_g rfl rfl (fun hg => (v_not (gv_ok rfl hg))) rfl ?_
    refine hl_v (v_or rfl rfl) rfl ?_
    refine hl_nil ?_
    refine thenQ_n ?_
    refine hw_sub _ (ai_cons (t := 0) rfl (ai_cons (t := 1) rfl (ai_cons (t := 5) rfl (ai_cons (t := 58) rfl ai_nil)))) ?_
    refine hw_cond rfl (fun hc_23 => ?_) (fun hc_23 => ?_)
    · replace h := ite_t h hc_23
      refine hw_seq ?_
      refine hw_region ?_
      refine hl_v (v_assign rfl) rfl ?_
      refine hl_nil ?_
      refine thenQ_n ?_
      refine hw_sub _ (ai_cons (t := 4) rfl ai_nil) ?_
      refine hw_ret ?_
      refine thenQ_r ?_
      refine ret_i _ (ra_t rfl ra_nil) ?_
      exact ⟨_, false, hZ, h, rfl, (Own.sel (Ls := [own fSet 31 v_16 (sS (cC (pP l))), own fInt 3 v_12 (cC (pP l)), own fSet 31 v_8 (pP l), fz fInt.rep v_3 xclass, fz fSet.rep v_1 l]) (L := L) [] rfl hO)⟩
    · replace h := ite_f h hc_23
      refine hw_skip ?_
      refine thenQ_n ?_
      refine hw_seq ?_
      refine hw_seq ?_
      refine hw_region ?_
      refine hl_v (v_assign rfl) rfl ?_
      refine hl_nil ?_
      refine thenQ_n ?_
      refine hw_sub _ (ai_cons (t := 0) rfl (ai_cons (t := 1) rfl (ai_cons (t := 5) rfl (ai_cons (t := 11) rfl ai_nil)))) ?_
      refine hw_block ?_
      obtain ⟨I_24, h, hI_26⟩ := h
      refine hw_lp (fun n' g' H' => ∃ (i : Nat) (Z' : Nat → Prop), n' = l.length - i ∧ g' = [(0, v_1), (1, v_3), (5, v_8), (11, .int .i64 (i : Int))] ∧ (∀ b, Z b → Z' b) ∧ I_24 i ∧ i ≤ l.length ∧ Own H' Z' (own fSet 31 v_8 (pP l) :: fz fInt.rep v_3 xclass :: fz fSet.rep v_1 l :: L)) _ _ (ai_cons (t := 0) rfl (ai_cons (t := 1) rfl (ai_cons (t := 5) rfl (ai_cons (t := 11) rfl ai_nil)))) ⟨0, _, rfl, rfl, hZ, h, by omega, (Own.sel (Ls := [own fSet 31 v_16 (sS (cC (pP l))), own fInt 3 v_12 (cC (pP l)), own fSet 31 v_8 (pP l), fz fInt.rep v_3 xclass, fz fSet.rep v_1 l]) (L := L) [2, 3, 4] rfl hO)⟩ ?_
      rintro _ _ H_27 ⟨i, Z_28, rfl, rfl, hZ, h, hb_29, hO⟩
      replace h := hI_26 i h hb_29
      refine hw_seq ?_
      refine hw_seq ?_
      refine hw_region ?_
      refine hl_v (v_move rfl) rfl ?_
      refine hl_v (v_move rfl) rfl ?_
      refine hl_v (v_lenL rfl Try.underlying48 rfl (hO.fsl 2 rfl)) rfl ?_
      refine hl_v (v_lss rfl rfl) rfl ?_
      refine hl_nil ?_
      refine thenQ_n ?_
      refine hw_sub _ (ai_cons (t := 0) rfl (ai_cons (t := 1) rfl (ai_cons (t := 5) rfl (ai_cons (t := 11) rfl (ai_cons (t := 62) rfl ai_nil))))) ?_
      refine hw_cond rfl (fun hc_30 => ?_) (fun hc_30 => ?_)
      · replace h := ite_t h hc_30
        refine hw_skip ?_
        refine thenQ_n ?_
        refine hw_seq ?_
        refine hw_block ?_
        refine hw_seq ?_
        refine hw_region ?_
        refine hl_v (v_move rfl) rfl ?_
        refine hl_v (v_move rfl) rfl ?_
        refine hl_v (v_move rfl) rfl ?_
        refine hl_v (v_ixL Try.underlying48 Try.sizeOf31 rfl rfl (hO.fsl 2 rfl) (by exact ⟨Int.natCast_nonneg _, of_decide_eq_true hc_30⟩)) rfl ?_
        refine hl_v (v_loadFl Try.isAgg31 Try.sizeOf31 rfl (hO.fsl 2 rfl) rfl (by exact ⟨Int.natCast_nonneg _, of_decide_eq_true hc_30⟩)) rfl ?_
        refine hl_h (h_call Try.call46 (evs_cons rfl (evs_cons rfl evs_nil)) (pOver_spec (a0 := pP l) (a1 := (l.getD i default)) hO (Rd.of_own (i := 0) rfl))) rfl ?_
        rintro vv H_32 ⟨Z_33, v_31, hz_34, hv, hO⟩
        obtain rfl := hv.symm
        replace hZ := fun b hb => hz_34 b (hZ b hb)
        replace hO : Own H_32 Z_33 (own fInt 3 v_31 (oO (pP l) (l.getD i default)) :: own fSet 31 v_8 (pP l) :: fz fInt.rep v_3 xclass :: fz fSet.rep v_1 l :: L) := hO
        refine hl_v (v_move rfl) rfl ?_
        refine hl_v (v_extract rfl rfl) rfl ?_
        refine hl_v (v_extract rfl rfl) rfl ?_
        refine hl_v (v_assign rfl) rfl ?_
        refine hl_v (v_assign rfl) rfl ?_
        refine hl_nil ?_
        refine thenQ_n ?_
        refine hw_sub _ (ai_cons (t := 0) rfl (ai_cons (t := 1) rfl (ai_cons (t := 5) rfl (ai_cons (t := 11) rfl (ai_cons (t := 12) rfl (ai_cons (t := 13) rfl ai_nil)))))) ?_
        refine hw_seq ?_
        refine hw_region ?_
        refine hl_h (o_alloc (cs := (sw BSet.zero)) hO Try.zeroValue31 rfl) rfl ?_
        rintro _ H_35 ⟨b_36, rfl, hO⟩
        replace hO : Own H_35 Z_33 (box b_36 (sw BSet.zero) 31 :: own fInt 3 v_31 (oO (pP l) (l.getD i default)) :: own fSet 31 v_8 (pP l) :: fz fInt.rep v_3 xclass :: fz fSet.rep v_1 l :: L) := hO
        refine hl_nil ?_
        refine thenQ_n ?_
        refine hw_sub _ (ai_cons (t := 0) rfl (ai_cons (t := 1) rfl (ai_cons (t := 5) rfl (ai_cons (t := 11) rfl (ai_cons (t := 12) rfl (ai_cons (t := 13) rfl (ai_cons (t := 14) rfl ai_nil))))))) ?_
        refine hw_seq ?_
        refine hw_seq ?_
        refine hw_region ?_
        refine hl_v (v_assign rfl) rfl ?_
        refine hl_nil ?_
        refine thenQ_n ?_
        refine hw_sub _ (ai_cons (t := 0) rfl (ai_cons (t := 1) rfl (ai_cons (t := 5) rfl (ai_cons (t := 11) rfl (ai_cons (t := 12) rfl (ai_cons (t := 13) rfl (ai_cons (t := 14) rfl (ai_cons (t := 15) rfl ai_nil)))))))) ?_
        refine hw_block ?_
        obtain ⟨I_37, h, hI_39⟩ := h
        refine hw_lp (fun n' g' H' => ∃ (all : BSet) (k : Nat) (Z' : Nat → Prop), n' = (oO (pP l) (l.getD i default)).length - k ∧ g' = [(0, v_1), (1, v_3), (5, v_8), (11, .int .i64 (i : Int)), (12, v_31), (13, .int .i64 (oE (pP l) (l.getD i default))), (14, ptr b_36 0), (15, .int .i64 (k : Int))] ∧ (∀ b, Z b → Z' b) ∧ I_37 all k ∧ k ≤ (oO (pP l) (l.getD i default)).length ∧ Own H' Z' (box b_36 (sw all) 31 :: own fInt 3 v_31 (oO (pP l) (l.getD i default)) :: own fSet 31 v_8 (pP l) :: fz fInt.rep v_3 xclass :: fz fSet.rep v_1 l :: L)) _ _ (ai_cons (t := 0) rfl (ai_cons (t := 1) rfl (ai_cons (t := 5) rfl (ai_cons (t := 11) rfl (ai_cons (t := 12) rfl (ai_cons (t := 13) rfl (ai_cons (t := 14) rfl (ai_cons (t := 15) rfl ai_nil)))))))) ⟨BSet.zero, 0, _, rfl, rfl, hZ, h, by omega, hO⟩ ?_
        rintro _ _ H_40 ⟨all, k, Z_41, rfl, rfl, hZ, h, hb_42, hO⟩
        replace h := hI_39 all k h hb_42
        refine hw_seq ?_
        refine hw_seq ?_
        refine hw_region ?_
        refine hl_v (v_move rfl) rfl ?_
        refine hl_v (v_move rfl) rfl ?_
        have hln_43 := Sl.cap (hO.osl 1 rfl)
        refine hl_v (v_lenL rfl Try.underlying51 rfl (hO.osl 1 rfl)) rfl ?_
        refine hl_v (v_lss rfl rfl) rfl ?_
        refine hl_nil ?_
        refine thenQ_n ?_
        refine hw_sub _ (ai_cons (t := 0) rfl (ai_cons (t := 1) rfl (ai_cons (t := 5) rfl (ai_cons (t := 11) rfl (ai_cons (t := 12) rfl (ai_cons (t := 13) rfl (ai_cons (t := 14) rfl (ai_cons (t := 15) rfl (ai_cons (t := 77) rfl ai_nil))))))))) ?_
        refine hw_cond rfl (fun hc_44 => ?_) (fun hc_44 => ?_)
        · replace h := ite_t h hc_44
          refine hw_skip ?_
          refine thenQ_n ?_
          refine hw_seq ?_
          refine hw_block ?_
          refine hw_seq ?_
          refine hw_seq ?_
          refine hw_region ?_
          refine hl_v (v_move rfl) rfl ?_
          refine hl_v (v_move rfl) rfl ?_
          refine hl_v (v_ixL Try.underlying51 Try.sizeOf3 rfl rfl (hO.osl 1 rfl) (by exact ⟨Int.natCast_nonneg _, of_decide_eq_true hc_44⟩)) rfl ?_
          refine hl_v (v_loadSc Try.isAgg3 rfl (hO.osl 1 rfl) rfl (by exact ⟨Int.natCast_nonneg _, of_decide_eq_true hc_44⟩) rfl) rfl ?_
          refine hl_v (v_lss rfl rfl) rfl ?_
          refine hl_v (v_move rfl) rfl ?_
          refine hl_g rfl rfl (fun hg => (v_move rfl)) rfl ?_
          refine hl_g rfl rfl (fun hg => (v_move rfl)) rfl ?_
          refine hl_g rfl rfl (fun hg => (v_ixL Try.underlying51 Try.sizeOf3 (gv_ok rfl hg) (gv_ok rfl hg) (hO.osl 1 rfl) (by exact ⟨Int.natCast_nonneg _, of_decide_eq_true hc_44⟩))) rfl ?_
          refine hl_g rfl rfl (fun hg => (v_loadSc Try.isAgg3 (gv_ok rfl hg) (hO.osl 1 rfl) rfl (by exact ⟨Int.natCast_nonneg _, of_decide_eq_true hc_44⟩) rfl)) rfl ?_
          refine hl_g rfl rfl (fun hg => (v_move rfl)) rfl ?_
          have hln_45 := Sl.cap (hO.osl 2 rfl)
          refine hl_g rfl rfl (fun hg => (v_lenL rfl Try.underlying48 (gv_ok rfl hg) (hO.osl 2 rfl))) rfl ?_
          refine hl_g rfl rfl (fun hg => (v_geq (gv_ok rfl hg) (gv_ok rfl hg))) rfl ?_
          refine hl_v (v_or rfl rfl) rfl ?_
          refine hl_nil ?_
          refine thenQ_n ?_
          refine hw_sub _ (ai_cons (t := 0) rfl (ai_cons (t := 1) rfl (ai_cons (t := 5) rfl (ai_cons (t := 11) rfl (ai_cons (t := 12) rfl (ai_cons (t := 13) rfl (ai_cons (t := 14) rfl (ai_cons (t := 15) rfl (ai_cons (t := 93) rfl ai_nil))))))))) ?_
          refine hw_cond rfl (fun hc_46 => ?_) (fun hc_46 => ?_)
          · replace h := ite_t h hc_46
            refine hw_seq ?_
            refine hw_region ?_
            refine hl_v (v_assign rfl) rfl ?_
            refine hl_nil ?_
            refine thenQ_n ?_
            refine hw_sub _ (ai_cons (t := 4) rfl ai_nil) ?_
            refine hw_ret ?_
            refine thenQ_r ?_
            refine blockQ_r ?_
            refine thenQ_r ?_
            refine thenQ_r ?_
            refine blockQ_r ?_
            refine thenQ_r ?_
            refine blockQ_r ?_
            refine thenQ_r ?_
            refine thenQ_r ?_
            refine blockQ_r ?_
            refine thenQ_r ?_
            refine ret_i _ (ra_t rfl ra_nil) ?_
            exact ⟨_, false, hZ, h, rfl, (Own.sel (Ls := [box b_36 (sw all) 31, own fInt 3 v_31 (oO (pP l) (l.getD i default)), own fSet 31 v_8 (pP l), fz fInt.rep v_3 xclass, fz fSet.rep v_1 l]) (L := L) [] rfl hO)⟩
          · replace h := ite_f h hc_46
            refine hw_skip ?_
            refine thenQ_n ?_
            refine hw_held2 9 (fun H' => ∃ Z' : Nat → Prop, Own H' Z' (box b_36 (sw all) 31 :: own fInt 3 v_31 (oO (pP l) (l.getD i default)) :: own fSet 31 v_8 (pP l) :: fz fInt.rep v_3 xclass :: fz fSet.rep v_1 l :: L)) (.step 0 false (.step 1 false (.step 2 false (.step 3 false (.step 4 false (.step 5 false (.step 6 false (.step 7 false (.step 8 true .done))))))))) (.step 9 true .done) Try.mixed (by kernel_rfl) ⟨_, hO⟩ ?_
            refine hd_v rfl (fun H' hS => by obtain ⟨Z', hO⟩ := hS; exact (v_loadA Try.isAgg31 Try.sizeOf31 rfl (Blk.at0 (hO.box 0 rfl)) rfl)) rfl ?_
            refine hd_v rfl (fun H' hS => by obtain ⟨Z', hO⟩ := hS; exact (v_move rfl)) rfl ?_
            refine hd_v rfl (fun H' hS => by obtain ⟨Z', hO⟩ := hS; exact (v_move rfl)) rfl ?_
            refine hd_v rfl (fun H' hS => by obtain ⟨Z', hO⟩ := hS; exact (v_move rfl)) rfl ?_
            refine hd_v rfl (fun H' hS => by obtain ⟨Z', hO⟩ := hS; exact (v_ixL Try.underlying51 Try.sizeOf3 rfl rfl (hO.osl 1 rfl) (by exact ⟨Int.natCast_nonneg _, of_decide_eq_true hc_44⟩))) rfl ?_
            refine hd_v rfl (fun H' hS => by obtain ⟨Z', hO⟩ := hS; exact (v_loadSc Try.isAgg3 rfl (hO.osl 1 rfl) rfl (by exact ⟨Int.natCast_nonneg _, of_decide_eq_true hc_44⟩) rfl)) rfl ?_
            obtain ⟨hs_47, h⟩ := h
            refine hd_v rfl (fun H' hS => by obtain ⟨Z', hO⟩ := hS; exact (v_ixL Try.underlying48 Try.sizeOf31 rfl rfl (hO.osl 2 rfl) hs_47)) rfl ?_
            refine hd_v rfl (fun H' hS => by obtain ⟨Z', hO⟩ := hS; exact (v_loadFl Try.isAgg31 Try.sizeOf31 rfl (hO.osl 2 rfl) rfl hs_47)) rfl ?_
            refine hd_h (h_call Try.call25 (evs_cons rfl (evs_cons rfl evs_nil)) (sAny_spec (a0 := all) (a1 := ((pP l).getD ((oO (pP l) (l.getD i default)).getD k default).toNat default)) hO)) (by rintro vv H_48 ⟨Z_49, hz_50, hv, hO⟩; obtain rfl := hv.symm; replace hZ := fun b hb => hz_50 b (hZ b hb); replace hO : Own H_48 Z_49 (box b_36 (sw all) 31 :: own fInt 3 v_31 (oO (pP l) (l.getD i default)) :: own fSet 31 v_8 (pP l) :: fz fInt.rep v_3 xclass :: fz fSet.rep v_1 l :: L) := hO; exact ⟨_, hO⟩) rfl ?_
            rintro vv H_48 ⟨Z_49, hz_50, hv, hO⟩
            obtain rfl := hv.symm
            replace hZ := fun b hb => hz_50 b (hZ b hb)
            replace hO : Own H_48 Z_49 (box b_36 (sw all) 31 :: own fInt 3 v_31 (oO (pP l) (l.getD i default)) :: own fSet 31 v_8 (pP l) :: fz fInt.rep v_3 xclass :: fz fSet.rep v_1 l :: L) := hO
            refine hd_nil ?_
            refine hd_s (o_storeA (us := (sw (all.bor ((pP l).getD ((oO (pP l) (l.getD i default)).getD k default).toNat default)))) hO 0 rfl Try.sizeOf31 rfl rfl rfl rfl (by intro u hu; exact (fSet).one _ u hu)) (fun _ _ _ => trivial) ?_
            rintro _ H_51 hO
            replace hO : Own H_51 Z_49 (box b_36 (sw (all.bor ((pP l).getD ((oO (pP l) (l.getD i default)).getD k default).toNat default))) 31 :: own fInt 3 v_31 (oO (pP l) (l.getD i default)) :: own fSet 31 v_8 (pP l) :: fz fInt.rep v_3 xclass :: fz fSet.rep v_1 l :: L) := hO
            refine hd_nil ?_
            refine blockQ_n ?_
            refine thenQ_n ?_
            refine hw_region ?_
            refine hl_v (v_move rfl) rfl ?_
            refine hl_v (v_add rfl rfl (by have hq := of_decide_eq_true hc_44; have hm := hln_43; constructor <;> omega)) rfl ?_
            refine hl_v (v_assign rfl) rfl ?_
            refine hl_nil ?_
            refine thenQ_n ?_
            exact ⟨_, _, (ai_cons (t := 0) rfl (ai_cons (t := 1) rfl (ai_cons (t := 5) rfl (ai_cons (t := 11) rfl (ai_cons (t := 12) rfl (ai_cons (t := 13) rfl (ai_cons (t := 14) rfl (ai_cons (t := 15) rfl ai_nil)))))))), ⟨all.bor ((pP l).getD ((oO (pP l) (l.getD i default)).getD k default).toNat default), k + 1, _, rfl, rfl, hZ, h, (by have hq := of_decide_eq_true hc_44; omega), hO⟩, (by have hq := of_decide_eq_true hc_44; omega)⟩
        · replace h := ite_f h hc_44
          refine hw_exit ?_
          refine thenQ_e ?_
          refine thenQ_e ?_
          refine blockQ_hit ?_
          refine thenQ_n ?_
          refine hw_seq ?_
          refine hw_quiet Try.mixed (by kernel_rfl) ?_
          refine hq_v (v_move rfl) rfl ?_
          refine hq_v (v_neq rfl rfl) rfl ?_
          refine hq_v (v_move rfl) rfl ?_
          refine hq_g rfl rfl (fun hg => (v_loadA Try.isAgg31 Try.sizeOf31 rfl (Blk.at0 (hO.box 0 rfl)) rfl)) rfl ?_
          refine hq_g rfl rfl (fun hg => (v_move rfl)) rfl ?_
          refine hq_g rfl rfl (fun hg => (v_move rfl)) rfl ?_
          refine hq_g rfl rfl (fun hg => (v_ixL Try.underlying48 Try.sizeOf31 (gv_ok rfl hg) (gv_ok rfl hg) (hO.fsl 4 rfl) (by exact ⟨Int.natCast_nonneg _, of_decide_eq_true hc_30⟩))) rfl ?_
          refine hq_g rfl rfl (fun hg => (v_loadFl Try.isAgg31 Try.sizeOf31 (gv_ok rfl hg) (hO.fsl 4 rfl) rfl (by exact ⟨Int.natCast_nonneg _, of_decide_eq_true hc_30⟩))) rfl ?_
          refine hq_g rfl rfl (fun hg => (v_neqSet Try.underlying31 Try.underlying29 Try.sizeOf29 (by kernel_rfl) (gv_ok rfl hg) (gv_ok rfl hg))) rfl ?_
          refine hq_v (v_or rfl rfl) rfl ?_
          refine hq_nil ?_
          refine thenQ_n ?_
          refine hw_sub _ (ai_cons (t := 0) rfl (ai_cons (t := 1) rfl (ai_cons (t := 5) rfl (ai_cons (t := 11) rfl (ai_cons (t := 112) rfl ai_nil))))) ?_
          refine hw_cond rfl (fun hc_52 => ?_) (fun hc_52 => ?_)
          · replace h := ite_t h hc_52
            refine hw_seq ?_
            refine hw_region ?_
            refine hl_v (v_assign rfl) rfl ?_
            refine hl_nil ?_
            refine thenQ_n ?_
            refine hw_sub _ (ai_cons (t := 4) rfl ai_nil) ?_
            refine hw_ret ?_
            refine blockQ_r ?_
            refine thenQ_r ?_
            refine thenQ_r ?_
            refine blockQ_r ?_
            refine thenQ_r ?_
            refine ret_i _ (ra_t rfl ra_nil) ?_
            exact ⟨_, false, hZ, h, rfl, (Own.sel (Ls := [box b_36 (sw all) 31, own fInt 3 v_31 (oO (pP l) (l.getD i default)), own fSet 31 v_8 (pP l), fz fInt.rep v_3 xclass, fz fSet.rep v_1 l]) (L := L) [] rfl hO)⟩
          · replace h := ite_f h hc_52
            refine hw_skip ?_
            refine blockQ_n ?_
            refine thenQ_n ?_
            refine hw_region ?_
            refine hl_v (v_move rfl) rfl ?_
            refine hl_v (v_add rfl rfl (by have hq := of_decide_eq_true hc_30; have hm := hln_5; constructor <;> omega)) rfl ?_
            refine hl_v (v_assign rfl) rfl ?_
            refine hl_nil ?_
            refine thenQ_n ?_
            exact ⟨_, _, (ai_cons (t := 0) rfl (ai_cons (t := 1) rfl (ai_cons (t := 5) rfl (ai_cons (t := 11) rfl ai_nil)))), ⟨i + 1, _, rfl, rfl, hZ, h, (by have hq := of_decide_eq_true hc_30; omega), (Own.sel (Ls := [box b_36 (sw all) 31, own fInt 3 v_31 (oO (pP l) (l.getD i default)), own fSet 31 v_8 (pP l), fz fInt.rep v_3 xclass, fz fSet.rep v_1 l]) (L := L) [2, 3, 4] rfl hO)⟩, (by have hq := of_decide_eq_true hc_30; omega)⟩
      · replace h := ite_f h hc_30
        refine hw_exit ?_
        refine thenQ_e ?_
        refine thenQ_e ?_
        refine blockQ_hit ?_
        refine thenQ_n ?_
        refine hw_seq ?_
        refine hw_region ?_
        refine hl_v (v_move rfl) rfl ?_
        refine hl_h (h_call Try.call44 (evs_cons rfl evs_nil) (pSets_spec (a0 := xclass) hO (Rd.of_fz (i := 1) rfl))) rfl ?_
        rintro vv H_54 ⟨Z_55, v_53, hz_56, hv, hO⟩
        obtain rfl := hv.symm
        replace hZ := fun b hb => hz_56 b (hZ b hb)
        replace hO : Own H_54 Z_55 (own fSet 31 v_53 (sS xclass) :: own fSet 31 v_8 (pP l) :: fz fInt.rep v_3 xclass :: fz fSet.rep v_1 l :: L) := hO
        refine hl_v (v_move rfl) rfl ?_
        refine hl_v (v_extract rfl rfl) rfl ?_
        refine hl_v (v_extract rfl rfl) rfl ?_
        refine hl_v (v_assign rfl) rfl ?_
        refine hl_v (v_assign rfl) rfl ?_
        refine hl_nil ?_
        refine thenQ_n ?_
        refine hw_sub _ (ai_cons (t := 1) rfl (ai_cons (t := 16) rfl (ai_cons (t := 17) rfl ai_nil))) ?_
        refine hw_seq ?_
        refine hw_seq ?_
        refine hw_region ?_
        refine hl_v (v_move rfl) rfl ?_
        refine hl_v (v_neq rfl rfl) rfl ?_
        refine hl_nil ?_
        refine thenQ_n ?_
        refine hw_sub _ (ai_cons (t := 1) rfl (ai_cons (t := 16) rfl (ai_cons (t := 119) rfl ai_nil))) ?_
        refine hw_cond rfl (fun hc_57 => ?_) (fun hc_57 => ?_)
        · replace h := ite_t h hc_57
          refine hw_seq ?_
          refine hw_region ?_
          refine hl_h (h_call Try.call32 evs_nil (aw2_spec  hO)) rfl ?_
          rintro vv H_58 ⟨Z_59, hz_60, hv, hO⟩
          obtain rfl := hv.symm
          replace hZ := fun b hb => hz_60 b (hZ b hb)
          replace hO : Own H_58 Z_59 (own fSet 31 v_53 (sS xclass) :: own fSet 31 v_8 (pP l) :: fz fInt.rep v_3 xclass :: fz fSet.rep v_1 l :: L) := hO
          refine hl_v (v_move rfl) rfl ?_
          refine hl_g rfl rfl (fun hg => (v_move rfl)) rfl ?_
          have hln_61 := Sl.cap (hO.osl 0 rfl)
          refine hl_g rfl rfl (fun hg => (v_lenL rfl Try.underlying48 (gv_ok rfl hg) (hO.osl 0 rfl))) rfl ?_
          refine hl_g rfl rfl (fun hg => (v_eql (gv_ok rfl hg) rfl)) rfl ?_
          refine hl_v (v_and rfl rfl) rfl ?_
          refine hl_v (v_assign rfl) rfl ?_
          refine hl_nil ?_
          refine thenQ_n ?_
          refine hw_sub _ (ai_cons (t := 4) rfl ai_nil) ?_
          refine hw_ret ?_
          refine thenQ_r ?_
          refine ret_i _ (ra_t rfl ra_nil) ?_
          exact ⟨_, (true && decide (((sS xclass).length : Int) = 0)), hZ, h, rfl, (Own.sel (Ls := [own fSet 31 v_53 (sS xclass), own fSet 31 v_8 (pP l), fz fInt.rep v_3 xclass, fz fSet.rep v_1 l]) (L := L) [] rfl hO)⟩
        · replace h := ite_f h hc_57
          refine hw_skip ?_
          refine thenQ_n ?_
          refine hw_seq ?_
          refine hw_region ?_
          refine hl_v (v_move rfl) rfl ?_
          refine hl_h (h_call Try.call30 (evs_cons rfl evs_nil) (pClass_spec (a0 := sS xclass) hO (Rd.of_own (i := 0) rfl))) rfl ?_
          rintro vv H_63 ⟨Z_64, v_62, hz_65, hv, hO⟩
          obtain rfl := hv.symm
          replace hZ := fun b hb => hz_65 b (hZ b hb)
          replace hO : Own H_63 Z_64 (own fInt 3 v_62 (cC (sS xclass)) :: own fSet 31 v_53 (sS xclass) :: own fSet 31 v_8 (pP l) :: fz fInt.rep v_3 xclass :: fz fSet.rep v_1 l :: L) := hO
          refine hl_v (v_move rfl) rfl ?_
          refine hl_v (v_extract rfl rfl) rfl ?_
          refine hl_v (v_extract rfl rfl) rfl ?_
          refine hl_v (v_assign rfl) rfl ?_
          refine hl_v (v_assign rfl) rfl ?_
          refine hl_nil ?_
          refine thenQ_n ?_
          refine hw_sub _ (ai_cons (t := 1) rfl (ai_cons (t := 18) rfl (ai_cons (t := 19) rfl ai_nil))) ?_
          refine hw_seq ?_
          refine hw_region ?_
          refine hl_h (h_call Try.call32 evs_nil (aw2_spec  hO)) rfl ?_
          rintro vv H_66 ⟨Z_67, hz_68, hv, hO⟩
          obtain rfl := hv.symm
          replace hZ := fun b hb => hz_68 b (hZ b hb)
          replace hO : Own H_66 Z_67 (own fInt 3 v_62 (cC (sS xclass)) :: own fSet 31 v_53 (sS xclass) :: own fSet 31 v_8 (pP l) :: fz fInt.rep v_3 xclass :: fz fSet.rep v_1 l :: L) := hO
          refine hl_v (v_move rfl) rfl ?_
          refine hl_g rfl rfl (fun hg => (v_move rfl)) rfl ?_
          refine hl_g rfl rfl (fun hg => (v_eql (gv_ok rfl hg) rfl)) rfl ?_
          refine hl_v (v_and rfl rfl) rfl ?_
          refine hl_v (v_move rfl) rfl ?_
          refine hl_g rfl rfl (fun hg => (v_move rfl)) rfl ?_
          refine hl_g rfl rfl (fun hg => (v_move rfl)) rfl ?_
          refine hl_gc (v := .bool (decide ((cC (sS xclass)) = xclass))) (R := fun H' => ∃ Z' : Nat → Prop, (∀ b, Z_67 b → Z' b) ∧ Own H' Z' (own fInt 3 v_62 (cC (sS xclass)) :: own fSet 31 v_53 (sS xclass) :: own fSet 31 v_8 (pP l) :: fz fInt.rep v_3 xclass :: fz fSet.rep v_1 l :: L)) rfl rfl (fun hg => OpH.mono (h_call Try.call34 (evs_cons (gv_ok rfl hg) (evs_cons (gv_ok rfl hg) evs_nil)) (rInts_spec (a0 := cC (sS xclass)) (a1 := xclass) hO (Rd.of_own (i := 0) rfl) (Rd.of_fz (i := 3) rfl))) (by rintro _ H' ⟨Z', hz, rfl, hO⟩; exact ⟨rfl, Z', hz, hO⟩)) ⟨_, fun _ h => h, hO⟩ rfl ?_
          rintro H_69 ⟨Z_70, hz_71, hO⟩
          replace hZ := fun b hb => hz_71 b (hZ b hb)
          replace hO : Own H_69 Z_70 (own fInt 3 v_62 (cC (sS xclass)) :: own fSet 31 v_53 (sS xclass) :: own fSet 31 v_8 (pP l) :: fz fInt.rep v_3 xclass :: fz fSet.rep v_1 l :: L) := hO
          refine hl_v (v_and rfl rfl) rfl ?_
          refine hl_v (v_assign rfl) rfl ?_
          refine hl_nil ?_
          refine thenQ_n ?_
          refine hw_sub _ (ai_cons (t := 4) rfl ai_nil) ?_
          refine hw_ret ?_
          refine ret_i _ (ra_t rfl ra_nil) ?_
          exact ⟨_, ((true && decide (cE (sS xclass) = 0)) && decide ((cC (sS xclass)) = xclass)), hZ, h, rfl, (Own.sel (Ls := [own fInt 3 v_62 (cC (sS xclass)), own fSet 31 v_53 (sS xclass), own fSet 31 v_8 (pP l), fz fInt.rep v_3 xclass, fz fSet.rep v_1 l]) (L := L) [] rfl hO)⟩
theorem lPartBack_spec {a0 : List BSet} {a1 : List Int} {v_1 : Value} {v_3 : Value} {L : List As} {H : Heap} {Z : Nat → Prop} (hO : Own H Z (L)) (hf_2 : Fz fSet.rep L v_1 a0) (hf_4 : Fz fInt.rep L v_3 a1) : HC Try.prog 13 [v_1, v_3] H (fun v H' => ∃ (Z' : Nat → Prop) , (∀ b, Z b → Z' b) ∧ v = .bool (true) ∧ Own H' Z' (L)) := by
  refine (lPartBack_ok (l := a0) (xclass := a1) (@lPartBack_wp a0 a1) hO hf_2 hf_4).mono ?_
  rintro v H' ⟨Z', r0, hz, hq, hv, hO'⟩
  obtain rfl := hq
  exact ⟨Z', hz, hv, hO'⟩

end Go.Proofs.Ytbfgjdhdohfacaa
