/- Walks of the laws of layer 2 (part). No condition. -/
import Derived.Test.YtbfgjdhdohfacaaL02b
import Derived.Test.YtbfgjdhdohfacaaPlain02e
set_option linter.unusedVariables false
set_option linter.unusedSimpArgs false
namespace Go.Proofs.Ytbfgjdhdohfacaa
open Go.Proofs
theorem awake2_spec {H : Heap} : HC Try.prog 32 [] H (fun v H' => v = .bool true ∧ Ext [] H H') := by
  have hx0 : Ext [] H H := Ext.refl _
  refine hc_of_hw (N := 60) (rs := [(.tmp 0)]) Try.func32 rfl rfl rfl rfl ?_
  refine hw_seq ?_
  refine hw_region ?_
  refine hl_v (v_assign rfl) rfl ?_
  refine hl_nil ?_
  refine thenQ_n ?_
  refine hw_sub _ ai_nil ?_
  refine hw_seq ?_
  refine hw_region ?_
  refine hl_h (h_buildSlice (xs := [_]) Try.underlying28 Try.sizeOf5 Try.zeroValue5 rfl (evs_cons rfl evs_nil) rfl (by decide) (by decide) (by intro v hv; simp only [List.mem_cons, List.not_mem_nil, or_false] at hv; rcases hv with rfl <;> rfl)) rfl ?_
  rintro _ H1 ⟨rfl, n2⟩
  have n2s := n2.size
  replace hx0 := Ext.trans hx0 n2.ext
  have n2o := Ow.new (g := fByte) (l := [97]) (B := H.size) n2 rfl (by omega) (by simp)
  refine hl_h (h_call Try.call18 (evs_cons rfl evs_nil) (Of_spec (by first | assumption | exact Ow.sl0 (by assumption)) (by first | assumption | exact fun _ h => h | exact fun b hb => (Ow.lt (by assumption) b hb).2 | (intro b hb; have hSb := hS b hb; omega)))) rfl ?_
  rintro _ H3 ⟨rfl, n4⟩
  have n4s := n4.size
  replace hx0 := Ext.trans hx0 n4
  replace n2o := Ow.ext0 n2o n4
  refine hl_h (h_buildSlice (xs := [_, _]) Try.underlying28 Try.sizeOf5 Try.zeroValue5 rfl (evs_cons rfl (evs_cons rfl evs_nil)) rfl (by decide) (by decide) (by intro v hv; simp only [List.mem_cons, List.not_mem_nil, or_false] at hv; rcases hv with rfl | rfl <;> rfl)) rfl ?_
  rintro _ H5 ⟨rfl, n6⟩
  have n6s := n6.size
  replace hx0 := Ext.trans hx0 n6.ext
  replace n2o := Ow.ext0 n2o n6.ext
  have n6o := Ow.new (g := fByte) (l := [97, 98]) (B := H3.size) n6 rfl (by omega) (by simp)
  refine hl_h (h_call Try.call18 (evs_cons rfl evs_nil) (Of_spec (by first | assumption | exact Ow.sl0 (by assumption)) (by first | assumption | exact fun _ h => h | exact fun b hb => (Ow.lt (by assumption) b hb).2 | (intro b hb; have hSb := hS b hb; omega)))) rfl ?_
  rintro _ H7 ⟨rfl, n8⟩
  have n8s := n8.size
  replace hx0 := Ext.trans hx0 n8
  replace n2o := Ow.ext0 n2o n8
  replace n6o := Ow.ext0 n6o n8
  refine hl_h (h_buildSlice (xs := [.tmp 7, .tmp 9]) Try.underlying48 Try.sizeOf31 Try.zeroValue31 rfl (evs_cons rfl (evs_cons rfl evs_nil)) rfl (by decide) (by decide) (by intro v hv; simp only [List.mem_cons, List.not_mem_nil, or_false] at hv; rcases hv with rfl | rfl <;> rfl)) rfl ?_
  rintro _ H9 ⟨rfl, n10⟩
  have n10s := n10.size
  replace hx0 := Ext.trans hx0 n10.ext
  replace n2o := Ow.ext0 n2o n10.ext
  replace n6o := Ow.ext0 n6o n10.ext
  have n10o := Ow.new (g := fSet) (l := [_, _]) (B := H7.size) n10 rfl (by omega) (by simp)
  refine hl_h (h_call Try.call28 (evs_cons rfl evs_nil) (Parts_spec (by first | with_reducible assumption | exact Ow.sl0 (by with_reducible assumption) | assumption | exact Ow.sl0 (by assumption)) (by first | assumption | exact fun _ h => h | exact fun b hb => (Ow.lt (by assumption) b hb).2 | (intro b hb; have hSb := hS b hb; omega)))) rfl ?_
  rintro _ H11 ⟨n12u, rfl, n12o, n12⟩
  have n12s := n12.size
  replace hx0 := Ext.trans hx0 n12
  replace n2o := Ow.ext0 n2o n12
  replace n6o := Ow.ext0 n6o n12
  replace n10o := Ow.ext0 n10o n12
  refine hl_v (v_move rfl) rfl ?_
  refine hl_v (v_extract rfl rfl) rfl ?_
  refine hl_v (v_extract rfl rfl) rfl ?_
  refine hl_v (v_assign rfl) rfl ?_
  refine hl_v (v_assign rfl) rfl ?_
  refine hl_nil ?_
  refine thenQ_n ?_
  refine hw_sub _ (ai_cons (t := 1) rfl (ai_cons (t := 2) rfl ai_nil)) ?_
  refine hw_seq ?_
  refine hw_region ?_
  refine hl_v (v_move rfl) rfl ?_
  refine hl_h (h_call Try.call30 (evs_cons rfl evs_nil) (Class_spec (by first | with_reducible assumption | exact Ow.sl0 (by with_reducible assumption) | assumption | exact Ow.sl0 (by assumption)) (by first | assumption | exact fun _ h => h | exact fun b hb => (Ow.lt (by assumption) b hb).2 | (intro b hb; have hSb := hS b hb; omega)))) rfl ?_
  rintro _ H13 ⟨n14u, rfl, n14o, n14⟩
  have n14s := n14.size
  replace hx0 := Ext.trans hx0 n14
  replace n2o := Ow.ext0 n2o n14
  replace n6o := Ow.ext0 n6o n14
  replace n10o := Ow.ext0 n10o n14
  replace n12o := Ow.ext0 n12o n14
  refine hl_v (v_move rfl) rfl ?_
  refine hl_v (v_extract rfl rfl) rfl ?_
  refine hl_v (v_extract rfl rfl) rfl ?_
  refine hl_v (v_assign rfl) rfl ?_
  refine hl_v (v_assign rfl) rfl ?_
  refine hl_nil ?_
  refine thenQ_n ?_
  refine hw_sub _ (ai_cons (t := 1) rfl (ai_cons (t := 2) rfl (ai_cons (t := 3) rfl (ai_cons (t := 4) rfl ai_nil)))) ?_
  refine hw_seq ?_
  refine hw_region ?_
  refine hl_v (v_move rfl) rfl ?_
  refine hl_v (v_eql rfl rfl) rfl ?_
  refine hl_v (v_move rfl) rfl ?_
  refine hl_g rfl rfl (fun hg => (v_move rfl)) rfl ?_
  refine hl_g rfl rfl (fun hg => (v_move rfl)) rfl ?_
  refine hl_g rfl rfl (fun hg => (v_eql (gv_ok rfl hg) (gv_ok rfl hg))) rfl ?_
  refine hl_v (v_and rfl rfl) rfl ?_
  refine hl_v (v_move rfl) rfl ?_
  refine hl_g rfl rfl (fun hg => (v_move rfl)) rfl ?_
  refine hl_g rfl rfl (fun hg => (v_lenL rfl Try.underlying48 (gv_ok rfl hg) (by first | assumption | exact Ow.sl0 (by assumption)))) rfl ?_
  refine hl_g rfl rfl (fun hg => (v_eql (gv_ok rfl hg) rfl)) rfl ?_
  refine hl_v (v_and rfl rfl) rfl ?_
  refine hl_v (v_move rfl) rfl ?_
  refine hl_g rfl rfl (fun hg => (v_move rfl)) rfl ?_
  refine hl_g rfl rfl (fun hg => (v_lenL rfl Try.underlying51 (gv_ok rfl hg) (by first | assumption | exact Ow.sl0 (by assumption)))) rfl ?_
  refine hl_g rfl rfl (fun hg => (v_eql (gv_ok rfl hg) rfl)) rfl ?_
  refine hl_v (v_and rfl rfl) rfl ?_
  refine hl_v (v_move rfl) rfl ?_
  refine hl_g rfl rfl (fun hg => (v_move rfl)) rfl ?_
  refine hl_g rfl rfl (fun hg => (v_ixL Try.underlying51 Try.sizeOf3 (gv_ok rfl hg) rfl (by first | assumption | exact Ow.sl0 (by assumption)) (by simp only [gb_t, gb_f, gb_g, decide_eq_true_eq, decide_eq_false_iff_not, Bool.and_eq_true, Bool.and_eq_false_iff, Bool.or_eq_true, Bool.or_eq_false_iff, Bool.not_eq_true', Bool.not_eq_false', Bool.not_eq_true, Bool.not_eq_false, beq_iff_eq, Int.not_lt, Int.not_le] at hg; (first | omega | assumption | (simp only [Int.toNat_natCast]; omega) | (simp; done) | (simp at *; omega))))) rfl ?_
  refine hl_g rfl rfl (fun hg => (v_loadSc Try.isAgg3 (gv_ok rfl hg) (by first | assumption | exact Ow.sl0 (by assumption)) rfl (by simp only [gb_t, gb_f, gb_g, decide_eq_true_eq, decide_eq_false_iff_not, Bool.and_eq_true, Bool.and_eq_false_iff, Bool.or_eq_true, Bool.or_eq_false_iff, Bool.not_eq_true', Bool.not_eq_false', Bool.not_eq_true, Bool.not_eq_false, beq_iff_eq, Int.not_lt, Int.not_le] at hg; (first | omega | assumption | (simp only [Int.toNat_natCast]; omega) | (simp; done) | (simp at *; omega))) rfl)) rfl ?_
  refine hl_g rfl rfl (fun hg => (v_eql (gv_ok rfl hg) rfl)) rfl ?_
  refine hl_v (v_and rfl rfl) rfl ?_
  refine hl_v (v_move rfl) rfl ?_
  refine hl_g rfl rfl (fun hg => (v_move rfl)) rfl ?_
  refine hl_g rfl rfl (fun hg => (v_ixL Try.underlying51 Try.sizeOf3 (gv_ok rfl hg) rfl (by first | assumption | exact Ow.sl0 (by assumption)) (by simp only [gb_t, gb_f, gb_g, decide_eq_true_eq, decide_eq_false_iff_not, Bool.and_eq_true, Bool.and_eq_false_iff, Bool.or_eq_true, Bool.or_eq_false_iff, Bool.not_eq_true', Bool.not_eq_false', Bool.not_eq_true, Bool.not_eq_false, beq_iff_eq, Int.not_lt, Int.not_le] at hg; (first | omega | assumption | (simp only [Int.toNat_natCast]; omega) | (simp; done) | (simp at *; omega))))) rfl ?_
  refine hl_g rfl rfl (fun hg => (v_loadSc Try.isAgg3 (gv_ok rfl hg) (by first | assumption | exact Ow.sl0 (by assumption)) rfl (by simp only [gb_t, gb_f, gb_g, decide_eq_true_eq, decide_eq_false_iff_not, Bool.and_eq_true, Bool.and_eq_false_iff, Bool.or_eq_true, Bool.or_eq_false_iff, Bool.not_eq_true', Bool.not_eq_false', Bool.not_eq_true, Bool.not_eq_false, beq_iff_eq, Int.not_lt, Int.not_le] at hg; (first | omega | assumption | (simp only [Int.toNat_natCast]; omega) | (simp; done) | (simp at *; omega))) rfl)) rfl ?_
  refine hl_g rfl rfl (fun hg => (v_eql (gv_ok rfl hg) rfl)) rfl ?_
  refine hl_v (v_and rfl rfl) rfl ?_
  refine hl_v (v_move rfl) rfl ?_
  refine hl_g rfl rfl (fun hg => (v_move rfl)) rfl ?_
  refine hl_g rfl rfl (fun hg => (v_ixL Try.underlying51 Try.sizeOf3 (gv_ok rfl hg) rfl (by first | assumption | exact Ow.sl0 (by assumption)) (by simp only [gb_t, gb_f, gb_g, decide_eq_true_eq, decide_eq_false_iff_not, Bool.and_eq_true, Bool.and_eq_false_iff, Bool.or_eq_true, Bool.or_eq_false_iff, Bool.not_eq_true', Bool.not_eq_false', Bool.not_eq_true, Bool.not_eq_false, beq_iff_eq, Int.not_lt, Int.not_le] at hg; (first | omega | assumption | (simp only [Int.toNat_natCast]; omega) | (simp; done) | (simp at *; omega))))) rfl ?_
  refine hl_g rfl rfl (fun hg => (v_loadSc Try.isAgg3 (gv_ok rfl hg) (by first | assumption | exact Ow.sl0 (by assumption)) rfl (by simp only [gb_t, gb_f, gb_g, decide_eq_true_eq, decide_eq_false_iff_not, Bool.and_eq_true, Bool.and_eq_false_iff, Bool.or_eq_true, Bool.or_eq_false_iff, Bool.not_eq_true', Bool.not_eq_false', Bool.not_eq_true, Bool.not_eq_false, beq_iff_eq, Int.not_lt, Int.not_le] at hg; (first | omega | assumption | (simp only [Int.toNat_natCast]; omega) | (simp; done) | (simp at *; omega))) rfl)) rfl ?_
  refine hl_g rfl rfl (fun hg => (v_eql (gv_ok rfl hg) rfl)) rfl ?_
  refine hl_v (v_and rfl rfl) rfl ?_
  refine hl_v (v_move rfl) rfl ?_
  refine hl_g rfl rfl (fun hg => (v_move rfl)) rfl ?_
  refine hl_g rfl rfl (fun hg => (v_ixL Try.underlying51 Try.sizeOf3 (gv_ok rfl hg) rfl (by first | assumption | exact Ow.sl0 (by assumption)) (by simp only [gb_t, gb_f, gb_g, decide_eq_true_eq, decide_eq_false_iff_not, Bool.and_eq_true, Bool.and_eq_false_iff, Bool.or_eq_true, Bool.or_eq_false_iff, Bool.not_eq_true', Bool.not_eq_false', Bool.not_eq_true, Bool.not_eq_false, beq_iff_eq, Int.not_lt, Int.not_le] at hg; (first | omega | assumption | (simp only [Int.toNat_natCast]; omega) | (simp; done) | (simp at *; omega))))) rfl ?_
  refine hl_g rfl rfl (fun hg => (v_loadSc Try.isAgg3 (gv_ok rfl hg) (by first | assumption | exact Ow.sl0 (by assumption)) rfl (by simp only [gb_t, gb_f, gb_g, decide_eq_true_eq, decide_eq_false_iff_not, Bool.and_eq_true, Bool.and_eq_false_iff, Bool.or_eq_true, Bool.or_eq_false_iff, Bool.not_eq_true', Bool.not_eq_false', Bool.not_eq_true, Bool.not_eq_false, beq_iff_eq, Int.not_lt, Int.not_le] at hg; (first | omega | assumption | (simp only [Int.toNat_natCast]; omega) | (simp; done) | (simp at *; omega))) rfl)) rfl ?_
  refine hl_g rfl rfl (fun hg => (v_eql (gv_ok rfl hg) rfl)) rfl ?_
  refine hl_v (v_and rfl rfl) rfl ?_
  refine hl_v (v_assign rfl) rfl ?_
  refine hl_nil ?_
  refine thenQ_n ?_
  refine hw_sub _ (ai_cons (t := 0) rfl ai_nil) ?_
  refine hw_ret ?_
  refine ret_i _ (ra_t rfl ra_nil) ?_
  refine ⟨congrArg Value.bool ?_, hx0⟩
  generalize hq : ([.ofL [97], .ofL [97, 98]] : List BSet) = q
  obtain rfl : q = ex2 := hq.symm
  clear hq
  have e1 : ex2.length ≤ 1024 := by show 2 ≤ 1024; omega
  rw [if_pos e1, if_pos e1, right_of_parts, cls_of_parts, if_pos rfl, if_pos rfl, ex2_len, cls_len]
  rw [show (cls ex2).getD (96 : Int).toNat default = 0 from ex2_96, show (cls ex2).getD (97 : Int).toNat default = 1 from ex2_97, show (cls ex2).getD (98 : Int).toNat default = 2 from ex2_98, show (cls ex2).getD (99 : Int).toNat default = 0 from ex2_99]
  rfl

theorem PartDoes_walk {v0 : Value} {l : List BSet} {H : Heap} (hs : Sl fSet.rep H (inH H) v0 l) : HC Try.prog 7 [v0] H (fun v H' => v = .bool true ∧ Ext [] H H') := by
  have hx0 : Ext [] H H := Ext.refl _
  have hcap := hs.cap
  have hS : ∀ b, inH H b → b < H.size := fun _ h => h
  refine hc_of_hw (N := 74) (rs := [(.tmp 2)]) Try.func7 rfl rfl rfl rfl ?_
  refine hw_seq ?_
  refine hw_region ?_
  refine hl_v (v_assign rfl) rfl ?_
  refine hl_nil ?_
  refine thenQ_n ?_
  refine hw_sub _ (ai_cons (t := 0) rfl ai_nil) ?_
  refine hw_seq ?_
  refine hw_seq ?_
  refine hw_region ?_
  refine hl_v (v_move rfl) rfl ?_
  refine hl_v (v_lenL rfl Try.underlying48 rfl (by first | assumption | exact Ow.sl0 (by assumption))) rfl ?_
  refine hl_v (v_gtr rfl rfl) rfl ?_
  refine hl_v (v_move rfl) rfl ?_
  refine hl_g rfl rfl (fun hg => (v_move rfl)) rfl ?_
  refine hl_g rfl rfl (fun hg => (v_lenL rfl Try.underlying48 (gv_ok rfl hg) (by first | assumption | exact Ow.sl0 (by assumption)))) rfl ?_
  refine hl_g rfl rfl (fun hg => (v_leq (gv_ok rfl hg) rfl)) rfl ?_
  refine hl_v (v_and rfl rfl) rfl ?_
  refine hl_v (v_move rfl) rfl ?_
  refine hl_g rfl rfl (fun hg => (v_move rfl)) rfl ?_
  refine hl_g rfl rfl (fun hg => (v_lenL rfl Try.underlying48 (gv_ok rfl hg) (by first | assumption | exact Ow.sl0 (by assumption)))) rfl ?_
  refine hl_g rfl rfl (fun hg => (v_gtr (gv_ok rfl hg) rfl)) rfl ?_
  refine hl_v (v_or rfl rfl) rfl ?_
  refine hl_nil ?_
  refine thenQ_n ?_
  refine hw_sub _ (ai_cons (t := 0) rfl (ai_cons (t := 24) rfl ai_nil)) ?_
  refine hw_cond rfl (fun hc1 => ?_) (fun hc1 => ?_)
  · try simp only [decide_eq_true_eq, decide_eq_false_iff_not, Bool.and_eq_true, Bool.and_eq_false_iff, Bool.or_eq_true, Bool.or_eq_false_iff, Bool.not_eq_true', Bool.not_eq_false', Bool.not_eq_true, Bool.not_eq_false, beq_iff_eq, Int.not_lt, Int.not_le] at hc1
    refine hw_seq ?_
    refine hw_region ?_
    refine hl_v (v_assign rfl) rfl ?_
    refine hl_nil ?_
    refine thenQ_n ?_
    refine hw_sub _ (ai_cons (t := 2) rfl ai_nil) ?_
    refine hw_ret ?_
    refine thenQ_r ?_
    refine ret_i _ (ra_t rfl ra_nil) ?_
    exact ⟨rfl, hx0⟩
  · try simp only [decide_eq_true_eq, decide_eq_false_iff_not, Bool.and_eq_true, Bool.and_eq_false_iff, Bool.or_eq_true, Bool.or_eq_false_iff, Bool.not_eq_true', Bool.not_eq_false', Bool.not_eq_true, Bool.not_eq_false, beq_iff_eq, Int.not_lt, Int.not_le] at hc1
    refine hw_skip ?_
    refine thenQ_n ?_
    refine hw_seq ?_
    refine hw_region ?_
    refine hl_v (v_assign rfl) rfl ?_
    refine hl_nil ?_
    refine thenQ_n ?_
    refine hw_sub _ (ai_cons (t := 0) rfl (ai_cons (t := 3) rfl ai_nil)) ?_
    refine hw_seq ?_
    refine hw_region ?_
    refine hl_v (v_move rfl) rfl ?_
    refine hl_v (v_move rfl) rfl ?_
    refine hl_h (h_append (g := fSet) (B := H.size) rfl Try.underlying48 Try.type31 rfl rfl rfl rfl (by decide) rfl rfl Ow.nil (by first | assumption | exact Ow.sl0 (by assumption)) (by first | (rw [show Try.t31.bytes = 32 from rfl]; simp only [List.length_append, List.length_cons, List.length_nil]; omega) | (rw [show Try.t31.bytes = 32 from rfl]; omega) | omega | (simp only [List.length_append, List.length_cons, List.length_nil]; omega) | assumption | (simp; done)) (by first | (rw [show Try.t31.bytes = 32 from rfl]; simp only [List.length_append, List.length_cons, List.length_nil]; omega) | (rw [show Try.t31.bytes = 32 from rfl]; omega) | omega | (simp only [List.length_append, List.length_cons, List.length_nil]; omega) | assumption | (simp; done)) (by first | (rw [show Try.t31.bytes = 32 from rfl]; simp only [List.length_append, List.length_cons, List.length_nil]; omega) | (rw [show Try.t31.bytes = 32 from rfl]; omega) | omega | (simp only [List.length_append, List.length_cons, List.length_nil]; omega) | assumption | (simp; done))) rfl ?_
    rintro v4 H2 ⟨a3o, a3x, a3n, a3b⟩
    have a3s := a3x.size
    replace hx0 := Ext.trans hx0 a3x
    replace hs := Sl.ext0 hs a3x
    refine hl_v (v_assign rfl) rfl ?_
    refine hl_nil ?_
    refine thenQ_n ?_
    refine hw_sub _ (ai_cons (t := 0) rfl (ai_cons (t := 3) rfl ai_nil)) ?_
    refine hw_seq ?_
    refine hw_region ?_
    refine hl_v (v_move rfl) rfl ?_
    refine hl_h (h_call Try.call28 (evs_cons rfl evs_nil) (Parts_spec (by first | with_reducible assumption | exact Ow.sl0 (by with_reducible assumption) | assumption | exact Ow.sl0 (by assumption)) (by first | assumption | exact fun _ h => h | exact fun b hb => (Ow.lt (by assumption) b hb).2 | (intro b hb; have hSb := hS b hb; omega)))) rfl ?_
    rintro _ H5 ⟨n6u, rfl, n6o, n6⟩
    have n6s := n6.size
    replace hx0 := Ext.trans hx0 n6
    replace hs := Sl.ext0 hs n6
    replace a3o := Ow.ext0 a3o n6
    refine hl_v (v_move rfl) rfl ?_
    refine hl_v (v_extract rfl rfl) rfl ?_
    refine hl_v (v_extract rfl rfl) rfl ?_
    refine hl_v (v_assign rfl) rfl ?_
    refine hl_v (v_assign rfl) rfl ?_
    refine hl_nil ?_
    refine thenQ_n ?_
    refine hw_sub _ (ai_cons (t := 0) rfl (ai_cons (t := 3) rfl (ai_cons (t := 4) rfl (ai_cons (t := 5) rfl ai_nil)))) ?_
    refine hw_seq ?_
    refine hw_region ?_
    refine hl_v (v_move rfl) rfl ?_
    refine hl_h (h_call Try.call29 (evs_cons rfl evs_nil) (rParts_spec (by first | with_reducible assumption | exact Ow.sl0 (by with_reducible assumption) | assumption | exact Ow.sl0 (by assumption)) (by first | assumption | exact fun _ h => h | exact fun b hb => (Ow.lt (by assumption) b hb).2 | (intro b hb; have hSb := hS b hb; omega)))) rfl ?_
    rintro _ H7 ⟨n8u, rfl, n8o, n8⟩
    have n8s := n8.size
    replace hx0 := Ext.trans hx0 n8
    replace hs := Sl.ext0 hs n8
    replace a3o := Ow.ext0 a3o n8
    replace n6o := Ow.ext0 n6o n8
    refine hl_v (v_move rfl) rfl ?_
    refine hl_v (v_extract rfl rfl) rfl ?_
    refine hl_v (v_extract rfl rfl) rfl ?_
    refine hl_v (v_assign rfl) rfl ?_
    refine hl_v (v_assign rfl) rfl ?_
    refine hl_nil ?_
    refine thenQ_n ?_
    refine hw_sub _ (ai_cons (t := 0) rfl (ai_cons (t := 3) rfl (ai_cons (t := 4) rfl (ai_cons (t := 5) rfl (ai_cons (t := 6) rfl (ai_cons (t := 7) rfl ai_nil)))))) ?_
    refine hw_seq ?_
    refine hw_region ?_
    refine hl_v (v_move rfl) rfl ?_
    refine hl_h (h_call Try.call30 (evs_cons rfl evs_nil) (Class_spec (by first | with_reducible assumption | exact Ow.sl0 (by with_reducible assumption) | assumption | exact Ow.sl0 (by assumption)) (by first | assumption | exact fun _ h => h | exact fun b hb => (Ow.lt (by assumption) b hb).2 | (intro b hb; have hSb := hS b hb; omega)))) rfl ?_
    rintro _ H9 ⟨n10u, rfl, n10o, n10⟩
    have n10s := n10.size
    replace hx0 := Ext.trans hx0 n10
    replace hs := Sl.ext0 hs n10
    replace a3o := Ow.ext0 a3o n10
    replace n6o := Ow.ext0 n6o n10
    replace n8o := Ow.ext0 n8o n10
    refine hl_v (v_move rfl) rfl ?_
    refine hl_v (v_extract rfl rfl) rfl ?_
    refine hl_v (v_extract rfl rfl) rfl ?_
    refine hl_v (v_assign rfl) rfl ?_
    refine hl_v (v_assign rfl) rfl ?_
    refine hl_nil ?_
    refine thenQ_n ?_
    refine hw_sub _ (ai_cons (t := 0) rfl (ai_cons (t := 3) rfl (ai_cons (t := 4) rfl (ai_cons (t := 5) rfl (ai_cons (t := 6) rfl (ai_cons (t := 7) rfl (ai_cons (t := 8) rfl (ai_cons (t := 9) rfl ai_nil)))))))) ?_
    refine hw_seq ?_
    refine hw_region ?_
    refine hl_v (v_move rfl) rfl ?_
    refine hl_h (h_call Try.call31 (evs_cons rfl evs_nil) (rClass_spec (by first | with_reducible assumption | exact Ow.sl0 (by with_reducible assumption) | assumption | exact Ow.sl0 (by assumption)) (by first | assumption | exact fun _ h => h | exact fun b hb => (Ow.lt (by assumption) b hb).2 | (intro b hb; have hSb := hS b hb; omega)))) rfl ?_
    rintro _ H11 ⟨n12u, rfl, n12o, n12⟩
    have n12s := n12.size
    replace hx0 := Ext.trans hx0 n12
    replace hs := Sl.ext0 hs n12
    replace a3o := Ow.ext0 a3o n12
    replace n6o := Ow.ext0 n6o n12
    replace n8o := Ow.ext0 n8o n12
    replace n10o := Ow.ext0 n10o n12
    refine hl_v (v_move rfl) rfl ?_
    refine hl_v (v_extract rfl rfl) rfl ?_
    refine hl_v (v_extract rfl rfl) rfl ?_
    refine hl_v (v_assign rfl) rfl ?_
    refine hl_v (v_assign rfl) rfl ?_
    refine hl_nil ?_
    refine thenQ_n ?_
    refine hw_sub _ (ai_cons (t := 0) rfl (ai_cons (t := 3) rfl (ai_cons (t := 4) rfl (ai_cons (t := 5) rfl (ai_cons (t := 6) rfl (ai_cons (t := 7) rfl (ai_cons (t := 8) rfl (ai_cons (t := 9) rfl (ai_cons (t := 10) rfl (ai_cons (t := 11) rfl ai_nil)))))))))) ?_
    refine hw_seq ?_
    refine hw_region ?_
    refine hl_h (h_call Try.call32 evs_nil (awake2_spec)) rfl ?_
    rintro _ H13 ⟨rfl, n14⟩
    have n14s := n14.size
    replace hx0 := Ext.trans hx0 n14
    replace hs := Sl.ext0 hs n14
    replace a3o := Ow.ext0 a3o n14
    replace n6o := Ow.ext0 n6o n14
    replace n8o := Ow.ext0 n8o n14
    replace n10o := Ow.ext0 n10o n14
    replace n12o := Ow.ext0 n12o n14
    refine hl_v (v_move rfl) rfl ?_
    refine hl_g rfl rfl (fun hg => (v_move rfl)) rfl ?_
    refine hl_g rfl rfl (fun hg => (v_move rfl)) rfl ?_
    refine hl_g rfl rfl (fun hg => (v_call Try.call33 (evs_cons (gv_ok rfl hg) (evs_cons (gv_ok rfl hg) evs_nil)) (Same_spec (by first | with_reducible assumption | exact Ow.sl0 (by with_reducible assumption) | exact Ow.sl0 (Ow.toInt (by with_reducible assumption)) | assumption | exact Ow.sl0 (by assumption)) (by first | with_reducible assumption | exact Ow.sl0 (by with_reducible assumption) | exact Ow.sl0 (Ow.toInt (by with_reducible assumption)) | assumption | exact Ow.sl0 (by assumption))))) rfl ?_
    refine hl_v (v_and rfl rfl) rfl ?_
    refine hl_v (v_move rfl) rfl ?_
    refine hl_g rfl rfl (fun hg => (v_move rfl)) rfl ?_
    refine hl_g rfl rfl (fun hg => (v_move rfl)) rfl ?_
    refine hl_g rfl rfl (fun hg => (v_eql (gv_ok rfl hg) (gv_ok rfl hg))) rfl ?_
    refine hl_v (v_and rfl rfl) rfl ?_
    refine hl_v (v_move rfl) rfl ?_
    refine hl_g rfl rfl (fun hg => (v_move rfl)) rfl ?_
    refine hl_g rfl rfl (fun hg => (v_move rfl)) rfl ?_
    refine hl_g rfl rfl (fun hg => (v_call Try.call34 (evs_cons (gv_ok rfl hg) (evs_cons (gv_ok rfl hg) evs_nil)) (Ints_spec (by first | with_reducible assumption | exact Ow.sl0 (by with_reducible assumption) | exact Ow.sl0 (Ow.toInt (by with_reducible assumption)) | assumption | exact Ow.sl0 (by assumption)) (by first | with_reducible assumption | exact Ow.sl0 (by with_reducible assumption) | exact Ow.sl0 (Ow.toInt (by with_reducible assumption)) | assumption | exact Ow.sl0 (by assumption))))) rfl ?_
    refine hl_v (v_and rfl rfl) rfl ?_
    refine hl_v (v_move rfl) rfl ?_
    refine hl_g rfl rfl (fun hg => (v_move rfl)) rfl ?_
    refine hl_g rfl rfl (fun hg => (v_move rfl)) rfl ?_
    refine hl_g rfl rfl (fun hg => (v_eql (gv_ok rfl hg) (gv_ok rfl hg))) rfl ?_
    refine hl_v (v_and rfl rfl) rfl ?_
    refine hl_v (v_move rfl) rfl ?_
    refine hl_g rfl rfl (fun hg => (v_move rfl)) rfl ?_
    refine hl_g rfl rfl (fun hg => (v_move rfl)) rfl ?_
    refine hl_g rfl rfl (fun hg => (v_call Try.call33 (evs_cons (gv_ok rfl hg) (evs_cons (gv_ok rfl hg) evs_nil)) (Same_spec (by first | with_reducible assumption | exact Ow.sl0 (by with_reducible assumption) | exact Ow.sl0 (Ow.toInt (by with_reducible assumption)) | assumption | exact Ow.sl0 (by assumption)) (by first | with_reducible assumption | exact Ow.sl0 (by with_reducible assumption) | exact Ow.sl0 (Ow.toInt (by with_reducible assumption)) | assumption | exact Ow.sl0 (by assumption))))) rfl ?_
    refine hl_v (v_and rfl rfl) rfl ?_
    refine hl_v (v_assign rfl) rfl ?_
    refine hl_nil ?_
    refine thenQ_n ?_
    refine hw_sub _ (ai_cons (t := 2) rfl ai_nil) ?_
    refine hw_ret ?_
    refine ret_i _ (ra_t rfl ra_nil) ?_
    refine ⟨congrArg Value.bool ?_, hx0⟩
    simp only [List.nil_append, decide_true, Bool.and_self]

theorem PartSets_walk {v0 v1 : Value} {c : List Int} {l : List BSet} {s : BSet} {H : Heap} (hc : Sl fInt.rep H (inH H) v0 c) (hs : Sl fSet.rep H (inH H) v1 l) : HC Try.prog 12 [v0, v1, sv s] H (fun v H' => v = .bool true ∧ Ext [] H H') := by
  have hx0 : Ext [] H H := Ext.refl _
  have hcap := hs.cap
  have hcap2 := hc.cap
  have hS : ∀ b, inH H b → b < H.size := fun _ h => h
  refine hc_of_hw (N := 99) (rs := [(.tmp 6)]) Try.func12 rfl rfl rfl rfl ?_
  refine hw_seq ?_
  refine hw_region ?_
  refine hl_h (h_boxS rfl) rfl ?_
  rintro _ H1 ⟨rfl, n2⟩
  have n2s := n2.size
  replace hx0 := Ext.trans hx0 n2.ext
  replace hs := Sl.ext0 hs n2.ext
  replace hc := Sl.ext0 hc n2.ext
  have n2b := n2.blk
  refine hl_v (v_assign rfl) rfl ?_
  refine hl_nil ?_
  refine thenQ_n ?_
  refine hw_sub _ (ai_cons (t := 0) rfl (ai_cons (t := 1) rfl (ai_cons (t := 5) rfl ai_nil))) ?_
  refine hw_seq ?_
  refine hw_seq ?_
  refine hw_region ?_
  refine hl_v (v_move rfl) rfl ?_
  refine hl_v (v_lenL rfl Try.underlying51 rfl (by first | assumption | exact Ow.sl0 (by assumption))) rfl ?_
  refine hl_v (v_gtr rfl rfl) rfl ?_
  refine hl_v (v_move rfl) rfl ?_
  refine hl_g rfl rfl (fun hg => (v_move rfl)) rfl ?_
  refine hl_g rfl rfl (fun hg => (v_lenL rfl Try.underlying48 (gv_ok rfl hg) (by first | assumption | exact Ow.sl0 (by assumption)))) rfl ?_
  refine hl_g rfl rfl (fun hg => (v_gtr (gv_ok rfl hg) rfl)) rfl ?_
  refine hl_v (v_or rfl rfl) rfl ?_
  refine hl_nil ?_
  refine thenQ_n ?_
  refine hw_sub _ (ai_cons (t := 0) rfl (ai_cons (t := 1) rfl (ai_cons (t := 5) rfl (ai_cons (t := 28) rfl ai_nil)))) ?_
  refine hw_cond rfl (fun hc3 => ?_) (fun hc3 => ?_)
  · try simp only [decide_eq_true_eq, decide_eq_false_iff_not, Bool.and_eq_true, Bool.and_eq_false_iff, Bool.or_eq_true, Bool.or_eq_false_iff, Bool.not_eq_true', Bool.not_eq_false', Bool.not_eq_true, Bool.not_eq_false, beq_iff_eq, Int.not_lt, Int.not_le] at hc3
    refine hw_seq ?_
    refine hw_region ?_
    refine hl_v (v_assign rfl) rfl ?_
    refine hl_nil ?_
    refine thenQ_n ?_
    refine hw_sub _ (ai_cons (t := 6) rfl ai_nil) ?_
    refine hw_ret ?_
    refine thenQ_r ?_
    refine ret_i _ (ra_t rfl ra_nil) ?_
    exact ⟨rfl, hx0⟩
  · try simp only [decide_eq_true_eq, decide_eq_false_iff_not, Bool.and_eq_true, Bool.and_eq_false_iff, Bool.or_eq_true, Bool.or_eq_false_iff, Bool.not_eq_true', Bool.not_eq_false', Bool.not_eq_true, Bool.not_eq_false, beq_iff_eq, Int.not_lt, Int.not_le] at hc3
    refine hw_skip ?_
    refine thenQ_n ?_
    refine hw_seq ?_
    refine hw_region ?_
    refine hl_v (v_move rfl) rfl ?_
    refine hl_h (h_call Try.call44 (evs_cons rfl evs_nil) (Sets_spec (by first | with_reducible assumption | exact Ow.sl0 (by with_reducible assumption) | assumption | exact Ow.sl0 (by assumption)) (by first | assumption | exact fun _ h => h | exact fun b hb => (Ow.lt (by assumption) b hb).2 | (intro b hb; have hSb := hS b hb; omega)))) rfl ?_
    rintro _ H4 ⟨n5u, rfl, n5o, n5⟩
    have n5s := n5.size
    replace hx0 := Ext.trans hx0 n5
    replace hs := Sl.ext0 hs n5
    replace hc := Sl.ext0 hc n5
    replace n2b := Ext.blk n5 n2b (by simp)
    refine hl_v (v_move rfl) rfl ?_
    refine hl_v (v_extract rfl rfl) rfl ?_
    refine hl_v (v_extract rfl rfl) rfl ?_
    refine hl_v (v_assign rfl) rfl ?_
    refine hl_v (v_assign rfl) rfl ?_
    refine hl_nil ?_
    refine thenQ_n ?_
    refine hw_sub _ (ai_cons (t := 0) rfl (ai_cons (t := 1) rfl (ai_cons (t := 5) rfl (ai_cons (t := 7) rfl (ai_cons (t := 8) rfl ai_nil))))) ?_
    refine hw_seq ?_
    refine hw_region ?_
    refine hl_v (v_move rfl) rfl ?_
    refine hl_h (h_call Try.call45 (evs_cons rfl evs_nil) (rSets_spec (by first | with_reducible assumption | exact Ow.sl0 (by with_reducible assumption) | assumption | exact Ow.sl0 (by assumption)) (by first | assumption | exact fun _ h => h | exact fun b hb => (Ow.lt (by assumption) b hb).2 | (intro b hb; have hSb := hS b hb; omega)))) rfl ?_
    rintro _ H6 ⟨n7u, rfl, n7o, n7⟩
    have n7s := n7.size
    replace hx0 := Ext.trans hx0 n7
    replace hs := Sl.ext0 hs n7
    replace hc := Sl.ext0 hc n7
    replace n2b := Ext.blk n7 n2b (by simp)
    replace n5o := Ow.ext0 n5o n7
    refine hl_v (v_move rfl) rfl ?_
    refine hl_v (v_extract rfl rfl) rfl ?_
    refine hl_v (v_extract rfl rfl) rfl ?_
    refine hl_v (v_assign rfl) rfl ?_
    refine hl_v (v_assign rfl) rfl ?_
    refine hl_nil ?_
    refine thenQ_n ?_
    refine hw_sub _ (ai_cons (t := 1) rfl (ai_cons (t := 5) rfl (ai_cons (t := 7) rfl (ai_cons (t := 8) rfl (ai_cons (t := 9) rfl (ai_cons (t := 10) rfl ai_nil)))))) ?_
    refine hw_seq ?_
    refine hw_region ?_
    refine hl_v (v_move rfl) rfl ?_
    refine hl_h (h_call Try.call29 (evs_cons rfl evs_nil) (rParts_spec (by first | with_reducible assumption | exact Ow.sl0 (by with_reducible assumption) | assumption | exact Ow.sl0 (by assumption)) (by first | assumption | exact fun _ h => h | exact fun b hb => (Ow.lt (by assumption) b hb).2 | (intro b hb; have hSb := hS b hb; omega)))) rfl ?_
    rintro _ H8 ⟨n9u, rfl, n9o, n9⟩
    have n9s := n9.size
    replace hx0 := Ext.trans hx0 n9
    replace hs := Sl.ext0 hs n9
    replace hc := Sl.ext0 hc n9
    replace n2b := Ext.blk n9 n2b (by simp)
    replace n5o := Ow.ext0 n5o n9
    replace n7o := Ow.ext0 n7o n9
    refine hl_v (v_move rfl) rfl ?_
    refine hl_v (v_extract rfl rfl) rfl ?_
    refine hl_v (v_extract rfl rfl) rfl ?_
    refine hl_v (v_assign rfl) rfl ?_
    refine hl_v (v_assign rfl) rfl ?_
    refine hl_nil ?_
    refine thenQ_n ?_
    refine hw_sub _ (ai_cons (t := 1) rfl (ai_cons (t := 5) rfl (ai_cons (t := 7) rfl (ai_cons (t := 8) rfl (ai_cons (t := 9) rfl (ai_cons (t := 10) rfl (ai_cons (t := 11) rfl ai_nil))))))) ?_
    refine hw_seq ?_
    refine hw_region ?_
    refine hl_v (v_move rfl) rfl ?_
    refine hl_v (v_loadS Try.isAgg31 Try.sizeOf31 rfl (by first | exact n2b | assumption)) rfl ?_
    refine hl_h (h_call Try.call46 (evs_cons rfl (evs_cons rfl evs_nil)) (Over_spec (by first | with_reducible assumption | exact Ow.sl0 (by with_reducible assumption) | assumption | exact Ow.sl0 (by assumption)) (by first | assumption | exact fun _ h => h | exact fun b hb => (Ow.lt (by assumption) b hb).2 | (intro b hb; have hSb := hS b hb; omega)))) rfl ?_
    rintro _ H10 ⟨n11u, rfl, n11o, n11⟩
    have n11s := n11.size
    replace hx0 := Ext.trans hx0 n11
    replace hs := Sl.ext0 hs n11
    replace hc := Sl.ext0 hc n11
    replace n2b := Ext.blk n11 n2b (by simp)
    replace n5o := Ow.ext0 n5o n11
    replace n7o := Ow.ext0 n7o n11
    replace n9o := Ow.ext0 n9o n11
    refine hl_v (v_move rfl) rfl ?_
    refine hl_v (v_extract rfl rfl) rfl ?_
    refine hl_v (v_extract rfl rfl) rfl ?_
    refine hl_v (v_assign rfl) rfl ?_
    refine hl_v (v_assign rfl) rfl ?_
    refine hl_nil ?_
    refine thenQ_n ?_
    refine hw_sub _ (ai_cons (t := 1) rfl (ai_cons (t := 5) rfl (ai_cons (t := 7) rfl (ai_cons (t := 8) rfl (ai_cons (t := 9) rfl (ai_cons (t := 10) rfl (ai_cons (t := 11) rfl (ai_cons (t := 13) rfl (ai_cons (t := 14) rfl ai_nil))))))))) ?_
    refine hw_seq ?_
    refine hw_region ?_
    refine hl_v (v_move rfl) rfl ?_
    refine hl_v (v_loadS Try.isAgg31 Try.sizeOf31 rfl (by first | exact n2b | assumption)) rfl ?_
    refine hl_h (h_call Try.call47 (evs_cons rfl (evs_cons rfl evs_nil)) (rOver_spec (by first | with_reducible assumption | exact Ow.sl0 (by with_reducible assumption) | assumption | exact Ow.sl0 (by assumption)) (by first | assumption | exact fun _ h => h | exact fun b hb => (Ow.lt (by assumption) b hb).2 | (intro b hb; have hSb := hS b hb; omega)))) rfl ?_
    rintro _ H12 ⟨n13u, rfl, n13o, n13⟩
    have n13s := n13.size
    replace hx0 := Ext.trans hx0 n13
    replace hs := Sl.ext0 hs n13
    replace hc := Sl.ext0 hc n13
    replace n2b := Ext.blk n13 n2b (by simp)
    replace n5o := Ow.ext0 n5o n13
    replace n7o := Ow.ext0 n7o n13
    replace n9o := Ow.ext0 n9o n13
    replace n11o := Ow.ext0 n11o n13
    refine hl_v (v_move rfl) rfl ?_
    refine hl_v (v_extract rfl rfl) rfl ?_
    refine hl_v (v_extract rfl rfl) rfl ?_
    refine hl_v (v_assign rfl) rfl ?_
    refine hl_v (v_assign rfl) rfl ?_
    refine hl_nil ?_
    refine thenQ_n ?_
    refine hw_sub _ (ai_cons (t := 1) rfl (ai_cons (t := 5) rfl (ai_cons (t := 7) rfl (ai_cons (t := 8) rfl (ai_cons (t := 9) rfl (ai_cons (t := 10) rfl (ai_cons (t := 13) rfl (ai_cons (t := 14) rfl (ai_cons (t := 15) rfl (ai_cons (t := 16) rfl ai_nil)))))))))) ?_
    refine hw_seq ?_
    refine hw_region ?_
    refine hl_v (v_move rfl) rfl ?_
    refine hl_v (v_loadS Try.isAgg31 Try.sizeOf31 rfl (by first | exact n2b | assumption)) rfl ?_
    refine hl_h (h_call Try.call46 (evs_cons rfl (evs_cons rfl evs_nil)) (Over_spec (by first | with_reducible assumption | exact Ow.sl0 (by with_reducible assumption) | assumption | exact Ow.sl0 (by assumption)) (by first | assumption | exact fun _ h => h | exact fun b hb => (Ow.lt (by assumption) b hb).2 | (intro b hb; have hSb := hS b hb; omega)))) rfl ?_
    rintro _ H14 ⟨n15u, rfl, n15o, n15⟩
    have n15s := n15.size
    replace hx0 := Ext.trans hx0 n15
    replace hs := Sl.ext0 hs n15
    replace hc := Sl.ext0 hc n15
    replace n2b := Ext.blk n15 n2b (by simp)
    replace n5o := Ow.ext0 n5o n15
    replace n7o := Ow.ext0 n7o n15
    replace n9o := Ow.ext0 n9o n15
    replace n11o := Ow.ext0 n11o n15
    replace n13o := Ow.ext0 n13o n15
    refine hl_v (v_move rfl) rfl ?_
    refine hl_v (v_extract rfl rfl) rfl ?_
    refine hl_v (v_extract rfl rfl) rfl ?_
    refine hl_v (v_assign rfl) rfl ?_
    refine hl_v (v_assign rfl) rfl ?_
    refine hl_nil ?_
    refine thenQ_n ?_
    refine hw_sub _ (ai_cons (t := 1) rfl (ai_cons (t := 5) rfl (ai_cons (t := 7) rfl (ai_cons (t := 8) rfl (ai_cons (t := 9) rfl (ai_cons (t := 10) rfl (ai_cons (t := 13) rfl (ai_cons (t := 14) rfl (ai_cons (t := 15) rfl (ai_cons (t := 16) rfl (ai_cons (t := 17) rfl (ai_cons (t := 18) rfl ai_nil)))))))))))) ?_
    refine hw_seq ?_
    refine hw_region ?_
    refine hl_v (v_move rfl) rfl ?_
    refine hl_v (v_loadS Try.isAgg31 Try.sizeOf31 rfl (by first | exact n2b | assumption)) rfl ?_
    refine hl_h (h_call Try.call47 (evs_cons rfl (evs_cons rfl evs_nil)) (rOver_spec (by first | with_reducible assumption | exact Ow.sl0 (by with_reducible assumption) | assumption | exact Ow.sl0 (by assumption)) (by first | assumption | exact fun _ h => h | exact fun b hb => (Ow.lt (by assumption) b hb).2 | (intro b hb; have hSb := hS b hb; omega)))) rfl ?_
    rintro _ H16 ⟨n17u, rfl, n17o, n17⟩
    have n17s := n17.size
    replace hx0 := Ext.trans hx0 n17
    replace hs := Sl.ext0 hs n17
    replace hc := Sl.ext0 hc n17
    replace n2b := Ext.blk n17 n2b (by simp)
    replace n5o := Ow.ext0 n5o n17
    replace n7o := Ow.ext0 n7o n17
    replace n9o := Ow.ext0 n9o n17
    replace n11o := Ow.ext0 n11o n17
    replace n13o := Ow.ext0 n13o n17
    replace n15o := Ow.ext0 n15o n17
    refine hl_v (v_move rfl) rfl ?_
    refine hl_v (v_extract rfl rfl) rfl ?_
    refine hl_v (v_extract rfl rfl) rfl ?_
    refine hl_v (v_assign rfl) rfl ?_
    refine hl_v (v_assign rfl) rfl ?_
    refine hl_nil ?_
    refine thenQ_n ?_
    refine hw_sub _ (ai_cons (t := 7) rfl (ai_cons (t := 8) rfl (ai_cons (t := 9) rfl (ai_cons (t := 10) rfl (ai_cons (t := 13) rfl (ai_cons (t := 14) rfl (ai_cons (t := 15) rfl (ai_cons (t := 16) rfl (ai_cons (t := 17) rfl (ai_cons (t := 18) rfl (ai_cons (t := 19) rfl (ai_cons (t := 20) rfl ai_nil)))))))))))) ?_
    refine hw_seq ?_
    refine hw_region ?_
    refine hl_h (h_call Try.call32 evs_nil (awake2_spec)) rfl ?_
    rintro _ H18 ⟨rfl, n19⟩
    have n19s := n19.size
    replace hx0 := Ext.trans hx0 n19
    replace hs := Sl.ext0 hs n19
    replace hc := Sl.ext0 hc n19
    replace n2b := Ext.blk n19 n2b (by simp)
    replace n5o := Ow.ext0 n5o n19
    replace n7o := Ow.ext0 n7o n19
    replace n9o := Ow.ext0 n9o n19
    replace n11o := Ow.ext0 n11o n19
    replace n13o := Ow.ext0 n13o n19
    replace n15o := Ow.ext0 n15o n19
    replace n17o := Ow.ext0 n17o n19
    refine hl_v (v_move rfl) rfl ?_
    refine hl_g rfl rfl (fun hg => (v_move rfl)) rfl ?_
    refine hl_g rfl rfl (fun hg => (v_move rfl)) rfl ?_
    refine hl_g rfl rfl (fun hg => (v_call Try.call33 (evs_cons (gv_ok rfl hg) (evs_cons (gv_ok rfl hg) evs_nil)) (Same_spec (by first | with_reducible assumption | exact Ow.sl0 (by with_reducible assumption) | exact Ow.sl0 (Ow.toInt (by with_reducible assumption)) | assumption | exact Ow.sl0 (by assumption)) (by first | with_reducible assumption | exact Ow.sl0 (by with_reducible assumption) | exact Ow.sl0 (Ow.toInt (by with_reducible assumption)) | assumption | exact Ow.sl0 (by assumption))))) rfl ?_
    refine hl_v (v_and rfl rfl) rfl ?_
    refine hl_v (v_move rfl) rfl ?_
    refine hl_g rfl rfl (fun hg => (v_move rfl)) rfl ?_
    refine hl_g rfl rfl (fun hg => (v_move rfl)) rfl ?_
    refine hl_g rfl rfl (fun hg => (v_eql (gv_ok rfl hg) (gv_ok rfl hg))) rfl ?_
    refine hl_v (v_and rfl rfl) rfl ?_
    refine hl_v (v_move rfl) rfl ?_
    refine hl_g rfl rfl (fun hg => (v_move rfl)) rfl ?_
    refine hl_g rfl rfl (fun hg => (v_move rfl)) rfl ?_
    refine hl_g rfl rfl (fun hg => (v_call Try.call34 (evs_cons (gv_ok rfl hg) (evs_cons (gv_ok rfl hg) evs_nil)) (Ints_spec (by first | with_reducible assumption | exact Ow.sl0 (by with_reducible assumption) | exact Ow.sl0 (Ow.toInt (by with_reducible assumption)) | assumption | exact Ow.sl0 (by assumption)) (by first | with_reducible assumption | exact Ow.sl0 (by with_reducible assumption) | exact Ow.sl0 (Ow.toInt (by with_reducible assumption)) | assumption | exact Ow.sl0 (by assumption))))) rfl ?_
    refine hl_v (v_and rfl rfl) rfl ?_
    refine hl_v (v_move rfl) rfl ?_
    refine hl_g rfl rfl (fun hg => (v_move rfl)) rfl ?_
    refine hl_g rfl rfl (fun hg => (v_move rfl)) rfl ?_
    refine hl_g rfl rfl (fun hg => (v_eql (gv_ok rfl hg) (gv_ok rfl hg))) rfl ?_
    refine hl_v (v_and rfl rfl) rfl ?_
    refine hl_v (v_move rfl) rfl ?_
    refine hl_g rfl rfl (fun hg => (v_move rfl)) rfl ?_
    refine hl_g rfl rfl (fun hg => (v_move rfl)) rfl ?_
    refine hl_g rfl rfl (fun hg => (v_call Try.call34 (evs_cons (gv_ok rfl hg) (evs_cons (gv_ok rfl hg) evs_nil)) (Ints_spec (by first | with_reducible assumption | exact Ow.sl0 (by with_reducible assumption) | exact Ow.sl0 (Ow.toInt (by with_reducible assumption)) | assumption | exact Ow.sl0 (by assumption)) (by first | with_reducible assumption | exact Ow.sl0 (by with_reducible assumption) | exact Ow.sl0 (Ow.toInt (by with_reducible assumption)) | assumption | exact Ow.sl0 (by assumption))))) rfl ?_
    refine hl_v (v_and rfl rfl) rfl ?_
    refine hl_v (v_move rfl) rfl ?_
    refine hl_g rfl rfl (fun hg => (v_move rfl)) rfl ?_
    refine hl_g rfl rfl (fun hg => (v_move rfl)) rfl ?_
    refine hl_g rfl rfl (fun hg => (v_eql (gv_ok rfl hg) (gv_ok rfl hg))) rfl ?_
    refine hl_v (v_and rfl rfl) rfl ?_
    refine hl_v (v_assign rfl) rfl ?_
    refine hl_nil ?_
    refine thenQ_n ?_
    refine hw_sub _ (ai_cons (t := 6) rfl ai_nil) ?_
    refine hw_ret ?_
    refine ret_i _ (ra_t rfl ra_nil) ?_
    refine ⟨congrArg Value.bool ?_, hx0⟩
    simp only [List.nil_append, decide_true, Bool.and_self]

theorem PartSame_walk {v0 : Value} {l : List BSet} {at' : Int} {H : Heap} (hs : Sl fSet.rep H (inH H) v0 l) (ha : -9223372036854775808 ≤ at' ∧ at' ≤ 9223372036854775807) : HC Try.prog 8 [v0, .int .i64 at'] H (fun v H' => v = .bool true ∧ Ext [] H H') := by
  have hx0 : Ext [] H H := Ext.refl _
  have hcap := hs.cap
  have hS : ∀ b, inH H b → b < H.size := fun _ h => h
  refine hc_of_hw (N := 88) (rs := [(.tmp 4)]) Try.func8 rfl rfl rfl rfl ?_
  refine hw_seq ?_
  refine hw_region ?_
  refine hl_v (v_assign rfl) rfl ?_
  refine hl_nil ?_
  refine thenQ_n ?_
  refine hw_sub _ (ai_cons (t := 0) rfl (ai_cons (t := 1) rfl ai_nil)) ?_
  refine hw_seq ?_
  refine hw_seq ?_
  refine hw_region ?_
  refine hl_v (v_move rfl) rfl ?_
  refine hl_v (v_lenL rfl Try.underlying48 rfl (by first | assumption | exact Ow.sl0 (by assumption))) rfl ?_
  refine hl_v (v_gtr rfl rfl) rfl ?_
  refine hl_v (v_move rfl) rfl ?_
  refine hl_g rfl rfl (fun hg => (v_move rfl)) rfl ?_
  refine hl_g rfl rfl (fun hg => (v_lss (gv_ok rfl hg) rfl)) rfl ?_
  refine hl_v (v_or rfl rfl) rfl ?_
  refine hl_v (v_move rfl) rfl ?_
  refine hl_g rfl rfl (fun hg => (v_move rfl)) rfl ?_
  refine hl_g rfl rfl (fun hg => (v_move rfl)) rfl ?_
  refine hl_g rfl rfl (fun hg => (v_lenL rfl Try.underlying48 (gv_ok rfl hg) (by first | assumption | exact Ow.sl0 (by assumption)))) rfl ?_
  refine hl_g rfl rfl (fun hg => (v_geq (gv_ok rfl hg) (gv_ok rfl hg))) rfl ?_
  refine hl_v (v_or rfl rfl) rfl ?_
  refine hl_nil ?_
  refine thenQ_n ?_
  refine hw_sub _ (ai_cons (t := 0) rfl (ai_cons (t := 1) rfl (ai_cons (t := 25) rfl ai_nil))) ?_
  refine hw_cond rfl (fun hc1 => ?_) (fun hc1 => ?_)
  · try simp only [decide_eq_true_eq, decide_eq_false_iff_not, Bool.and_eq_true, Bool.and_eq_false_iff, Bool.or_eq_true, Bool.or_eq_false_iff, Bool.not_eq_true', Bool.not_eq_false', Bool.not_eq_true, Bool.not_eq_false, beq_iff_eq, Int.not_lt, Int.not_le] at hc1
    refine hw_seq ?_
    refine hw_region ?_
    refine hl_h (h_call Try.call32 evs_nil (awake2_spec)) rfl ?_
    rintro _ H2 ⟨rfl, n3⟩
    have n3s := n3.size
    replace hx0 := Ext.trans hx0 n3
    replace hs := Sl.ext0 hs n3
    refine hl_v (v_assign rfl) rfl ?_
    refine hl_nil ?_
    refine thenQ_n ?_
    refine hw_sub _ (ai_cons (t := 4) rfl ai_nil) ?_
    refine hw_ret ?_
    refine thenQ_r ?_
    refine ret_i _ (ra_t rfl ra_nil) ?_
    exact ⟨rfl, hx0⟩
  · try simp only [decide_eq_true_eq, decide_eq_false_iff_not, Bool.and_eq_true, Bool.and_eq_false_iff, Bool.or_eq_true, Bool.or_eq_false_iff, Bool.not_eq_true', Bool.not_eq_false', Bool.not_eq_true, Bool.not_eq_false, beq_iff_eq, Int.not_lt, Int.not_le] at hc1
    refine hw_skip ?_
    refine thenQ_n ?_
    refine hw_seq ?_
    refine hw_region ?_
    refine hl_v (v_move rfl) rfl ?_
    refine hl_h (h_call Try.call28 (evs_cons rfl evs_nil) (Parts_spec (by first | with_reducible assumption | exact Ow.sl0 (by with_reducible assumption) | assumption | exact Ow.sl0 (by assumption)) (by first | assumption | exact fun _ h => h | exact fun b hb => (Ow.lt (by assumption) b hb).2 | (intro b hb; have hSb := hS b hb; omega)))) rfl ?_
    rintro _ H4 ⟨n5u, rfl, n5o, n5⟩
    have n5s := n5.size
    replace hx0 := Ext.trans hx0 n5
    replace hs := Sl.ext0 hs n5
    refine hl_v (v_move rfl) rfl ?_
    refine hl_v (v_extract rfl rfl) rfl ?_
    refine hl_v (v_extract rfl rfl) rfl ?_
    refine hl_v (v_assign rfl) rfl ?_
    refine hl_v (v_assign rfl) rfl ?_
    refine hl_nil ?_
    refine thenQ_n ?_
    refine hw_sub _ (ai_cons (t := 0) rfl (ai_cons (t := 1) rfl (ai_cons (t := 5) rfl (ai_cons (t := 6) rfl ai_nil)))) ?_
    refine hw_seq ?_
    have n5lt : ∀ b, b ∈ mb n5u → b < H4.size := fun b hb => (Ow.lt n5o b hb).2
    refine hw_region ?_
    refine hl_v (v_assign rfl) rfl ?_
    refine hl_nil ?_
    refine thenQ_n ?_
    refine hw_sub _ (ai_cons (t := 0) rfl (ai_cons (t := 1) rfl (ai_cons (t := 5) rfl (ai_cons (t := 6) rfl (ai_cons (t := 7) rfl ai_nil))))) ?_
    refine hw_seq ?_
    refine hw_seq ?_
    refine hw_region ?_
    refine hl_v (v_move rfl) rfl ?_
    refine hl_v (v_lenL rfl Try.underlying48 rfl (by first | assumption | exact Ow.sl0 (by assumption))) rfl ?_
    refine hl_v (v_sub rfl rfl (by first | omega | assumption | (simp only [Int.toNat_natCast]; omega) | (simp; done) | (simp at *; omega))) rfl ?_
    refine hl_v (v_assign rfl) rfl ?_
    refine hl_nil ?_
    refine thenQ_n ?_
    refine hw_sub _ (ai_cons (t := 0) rfl (ai_cons (t := 1) rfl (ai_cons (t := 5) rfl (ai_cons (t := 6) rfl (ai_cons (t := 7) rfl (ai_cons (t := 8) rfl ai_nil)))))) ?_
    refine hw_block ?_
    refine hw_loop (α := Int × Value) [(0, _), (1, _), (5, _), (6, _)] (fun x => [(7, x.2), (8, .int .i64 x.1)]) (fun x G6 => Ext [] H G6 ∧ Sl fSet.rep G6 (inH H) v0 l ∧ Ow fSet G6 H.size 31 n5u (if l.length ≤ 1024 then parts l else []) ∧ Ow fSet G6 H4.size 31 x.2 (l.drop (x.1 + 1).toNat).reverse ∧ H4.size ≤ G6.size ∧ -1 ≤ x.1 ∧ x.1 < (l.length : Int)) (fun x => (x.1 + 1).toNat) ((l.length : Int) - 1, .slice none 0 0) (ai_cons (t := 7) rfl (ai_cons (t := 8) rfl (ai_cons (t := 0) rfl (ai_cons (t := 1) rfl (ai_cons (t := 5) rfl (ai_cons (t := 6) rfl ai_nil)))))) ?_ ?_
    · exact ⟨hx0, hs, n5o, (Ow.nil.congr (by rw [List.drop_eq_nil_of_le (by omega)]; rfl)), Nat.le_refl _, ⟨by omega, by omega⟩⟩
    · intro x G6 hI
      obtain ⟨hx0, hs, n5o, ow, hz, ⟨hk, hk2⟩⟩ := hI
      have hx0z := hx0.size
      have hrl : ((l.drop (x.1 + 1).toNat).reverse).length ≤ l.length := by simp
      refine hw_seq ?_
      refine hw_seq ?_
      refine hw_region ?_
      refine hl_v (v_move rfl) rfl ?_
      refine hl_v (v_geq rfl rfl) rfl ?_
      refine hl_nil ?_
      refine thenQ_n ?_
      refine hw_sub _ (ai_cons (t := 0) rfl (ai_cons (t := 1) rfl (ai_cons (t := 5) rfl (ai_cons (t := 6) rfl (ai_cons (t := 7) rfl (ai_cons (t := 8) rfl (ai_cons (t := 36) rfl ai_nil))))))) ?_
      refine hw_cond rfl (fun hc6 => ?_) (fun hc6 => ?_)
      · try simp only [decide_eq_true_eq, decide_eq_false_iff_not, Bool.and_eq_true, Bool.and_eq_false_iff, Bool.or_eq_true, Bool.or_eq_false_iff, Bool.not_eq_true', Bool.not_eq_false', Bool.not_eq_true, Bool.not_eq_false, beq_iff_eq, Int.not_lt, Int.not_le] at hc6
        refine hw_skip ?_
        refine thenQ_n ?_
        refine hw_seq ?_
        refine hw_block ?_
        refine hw_region ?_
        refine hl_v (v_move rfl) rfl ?_
        refine hl_v (v_move rfl) rfl ?_
        refine hl_v (v_move rfl) rfl ?_
        refine hl_v (v_ixL Try.underlying48 Try.sizeOf31 rfl rfl (by first | assumption | exact Ow.sl0 (by assumption)) (by first | omega | assumption | (simp only [Int.toNat_natCast]; omega) | (simp; done) | (simp at *; omega))) rfl ?_
        refine hl_v (v_loadFl Try.isAgg31 Try.sizeOf31 rfl (by first | assumption | exact Ow.sl0 (by assumption)) rfl (by first | omega | assumption | (simp only [Int.toNat_natCast]; omega) | (simp; done) | (simp at *; omega))) rfl ?_
        refine hl_h (h_buildSlice (xs := [.tmp 43]) Try.underlying48 Try.sizeOf31 Try.zeroValue31 rfl (evs_cons rfl evs_nil) rfl (by decide) (by decide) (by intro v hv; simp only [List.mem_cons, List.not_mem_nil, or_false] at hv; rcases hv with rfl <;> rfl)) rfl ?_
        rintro _ H7 ⟨rfl, n8⟩
        have n8s := n8.size
        replace hx0 := Ext.trans hx0 n8.ext
        replace hs := Sl.ext0 hs n8.ext
        replace n5o := Ow.ext0 n5o n8.ext
        replace ow := Ow.ext0 ow n8.ext
        have n8o := Ow.new (g := fSet) (l := [_]) (B := G6.size) n8 rfl (by omega) (by simp)
        refine hl_h (h_append (g := fSet) (B := _) rfl Try.underlying48 Try.type31 rfl rfl rfl rfl (by decide) rfl rfl ow (by first | assumption | exact Ow.sl0 (by assumption)) (by first | (rw [show Try.t31.bytes = 32 from rfl]; simp only [List.length_append, List.length_cons, List.length_nil]; omega) | (rw [show Try.t31.bytes = 32 from rfl]; omega) | omega | (simp only [List.length_append, List.length_cons, List.length_nil]; omega) | assumption | (simp; done)) (by first | (rw [show Try.t31.bytes = 32 from rfl]; simp only [List.length_append, List.length_cons, List.length_nil]; omega) | (rw [show Try.t31.bytes = 32 from rfl]; omega) | omega | (simp only [List.length_append, List.length_cons, List.length_nil]; omega) | assumption | (simp; done)) (by first | (rw [show Try.t31.bytes = 32 from rfl]; simp only [List.length_append, List.length_cons, List.length_nil]; omega) | (rw [show Try.t31.bytes = 32 from rfl]; omega) | omega | (simp only [List.length_append, List.length_cons, List.length_nil]; omega) | assumption | (simp; done))) rfl ?_
        rintro v11 H9 ⟨a10o, a10x, a10n, a10b⟩
        have a10s := a10x.size
        replace hx0 := Ext.fresh hx0 a10x (by intro b hb; exact Or.inl (Nat.le_trans (by omega) (Ow.lt ow b hb).1))
        replace hs := Sl.ext hs a10x (by intro b hb; (try have hSb := hS b hb); intro hm; have hlt := Ow.lt ow _ hm; (try simp only [mb, List.mem_singleton] at hb); (try simp only [mb, List.mem_singleton] at hm); (try have hsp := n5lt _ hb); (try have hsq := n5lt _ hm); (try have hsr := howlt _ hb); (try have hst := howlt _ hm); omega)
        replace n5o := Ow.ext n5o a10x (by intro b hb; have hlb := Ow.lt n5o b hb; intro hm; have hlt := Ow.lt ow _ hm; (try simp only [mb, List.mem_singleton] at hb); (try simp only [mb, List.mem_singleton] at hm); (try have hsp := n5lt _ hb); (try have hsq := n5lt _ hm); (try have hsr := howlt _ hb); (try have hst := howlt _ hm); omega)
        refine hl_v (v_assign rfl) rfl ?_
        refine hl_nil ?_
        refine blockQ_n ?_
        refine thenQ_n ?_
        refine hw_region ?_
        refine hl_v (v_move rfl) rfl ?_
        refine hl_v (v_sub rfl rfl (by first | omega | assumption | (simp only [Int.toNat_natCast]; omega) | (simp; done) | (simp at *; omega))) rfl ?_
        refine hl_v (v_assign rfl) rfl ?_
        refine hl_nil ?_
        refine thenQ_n ?_
        refine ⟨(x.1 - 1, _), (ai_cons (t := 7) rfl (ai_cons (t := 8) rfl (ai_cons (t := 0) rfl (ai_cons (t := 1) rfl (ai_cons (t := 5) rfl (ai_cons (t := 6) rfl ai_nil)))))), ?_, ?_⟩
        · skip
          exact ⟨hx0, hs, n5o, (a10o.congr (rev_take (by omega) (by omega))), (by omega), ⟨by omega, by omega⟩⟩
        · omega
      · try simp only [decide_eq_true_eq, decide_eq_false_iff_not, Bool.and_eq_true, Bool.and_eq_false_iff, Bool.or_eq_true, Bool.or_eq_false_iff, Bool.not_eq_true', Bool.not_eq_false', Bool.not_eq_true, Bool.not_eq_false, beq_iff_eq, Int.not_lt, Int.not_le] at hc6
        refine hw_exit ?_
        refine thenQ_e ?_
        refine thenQ_e ?_
        refine blockQ_hit ?_
        refine thenQ_n ?_
        refine hw_seq ?_
        refine hw_region ?_
        refine hl_v (v_move rfl) rfl ?_
        refine hl_v (v_move rfl) rfl ?_
        refine hl_v (v_move rfl) rfl ?_
        refine hl_v (v_ixL Try.underlying48 Try.sizeOf31 rfl rfl (by first | assumption | exact Ow.sl0 (by assumption)) (by first | omega | assumption | (simp only [Int.toNat_natCast]; omega) | (simp; done) | (simp at *; omega))) rfl ?_
        refine hl_v (v_loadFl Try.isAgg31 Try.sizeOf31 rfl (by first | assumption | exact Ow.sl0 (by assumption)) rfl (by first | omega | assumption | (simp only [Int.toNat_natCast]; omega) | (simp; done) | (simp at *; omega))) rfl ?_
        refine hl_h (h_buildSlice (xs := [.tmp 50]) Try.underlying48 Try.sizeOf31 Try.zeroValue31 rfl (evs_cons rfl evs_nil) rfl (by decide) (by decide) (by intro v hv; simp only [List.mem_cons, List.not_mem_nil, or_false] at hv; rcases hv with rfl <;> rfl)) rfl ?_
        rintro _ H12 ⟨rfl, n13⟩
        have n13s := n13.size
        replace hx0 := Ext.trans hx0 n13.ext
        replace hs := Sl.ext0 hs n13.ext
        replace n5o := Ow.ext0 n5o n13.ext
        replace ow := Ow.ext0 ow n13.ext
        have n13o := Ow.new (g := fSet) (l := [_]) (B := G6.size) n13 rfl (by omega) (by simp)
        refine hl_h (h_append (g := fSet) (B := _) rfl Try.underlying48 Try.type31 rfl rfl rfl rfl (by decide) rfl rfl ow (by first | assumption | exact Ow.sl0 (by assumption)) (by first | (rw [show Try.t31.bytes = 32 from rfl]; simp only [List.length_append, List.length_cons, List.length_nil]; omega) | (rw [show Try.t31.bytes = 32 from rfl]; omega) | omega | (simp only [List.length_append, List.length_cons, List.length_nil]; omega) | assumption | (simp; done)) (by first | (rw [show Try.t31.bytes = 32 from rfl]; simp only [List.length_append, List.length_cons, List.length_nil]; omega) | (rw [show Try.t31.bytes = 32 from rfl]; omega) | omega | (simp only [List.length_append, List.length_cons, List.length_nil]; omega) | assumption | (simp; done)) (by first | (rw [show Try.t31.bytes = 32 from rfl]; simp only [List.length_append, List.length_cons, List.length_nil]; omega) | (rw [show Try.t31.bytes = 32 from rfl]; omega) | omega | (simp only [List.length_append, List.length_cons, List.length_nil]; omega) | assumption | (simp; done))) rfl ?_
        rintro v16 H14 ⟨a15o, a15x, a15n, a15b⟩
        have a15s := a15x.size
        replace hx0 := Ext.fresh hx0 a15x (by intro b hb; exact Or.inl (Nat.le_trans (by omega) (Ow.lt ow b hb).1))
        replace hs := Sl.ext hs a15x (by intro b hb; (try have hSb := hS b hb); intro hm; have hlt := Ow.lt ow _ hm; (try simp only [mb, List.mem_singleton] at hb); (try simp only [mb, List.mem_singleton] at hm); (try have hsp := n5lt _ hb); (try have hsq := n5lt _ hm); (try have hsr := howlt _ hb); (try have hst := howlt _ hm); omega)
        replace n5o := Ow.ext n5o a15x (by intro b hb; have hlb := Ow.lt n5o b hb; intro hm; have hlt := Ow.lt ow _ hm; (try simp only [mb, List.mem_singleton] at hb); (try simp only [mb, List.mem_singleton] at hm); (try have hsp := n5lt _ hb); (try have hsq := n5lt _ hm); (try have hsr := howlt _ hb); (try have hst := howlt _ hm); omega)
        refine hl_v (v_assign rfl) rfl ?_
        refine hl_nil ?_
        refine thenQ_n ?_
        refine hw_sub _ (ai_cons (t := 5) rfl (ai_cons (t := 6) rfl (ai_cons (t := 7) rfl ai_nil))) ?_
        refine hw_seq ?_
        refine hw_seq ?_
        refine hw_region ?_
        refine hl_v (v_assign rfl) rfl ?_
        refine hl_nil ?_
        refine thenQ_n ?_
        refine hw_sub _ (ai_cons (t := 5) rfl (ai_cons (t := 6) rfl (ai_cons (t := 7) rfl (ai_cons (t := 9) rfl ai_nil)))) ?_
        refine hw_block ?_
        refine hw_loop (α := Nat) [(5, _), (6, _), (7, _)] (fun k => [(9, .int .i64 (k : Int))]) (fun k G11 => Ext [] H G11 ∧ Sl fSet.rep G11 (inH H) v0 l ∧ Ow fSet G11 H.size 31 n5u (if l.length ≤ 1024 then parts l else []) ∧ Ow fSet G11 H4.size 31 v16 (flip0 ((l.drop 0).reverse ++ [l.getD at'.toNat default]) k) ∧ H4.size ≤ G11.size ∧ k ≤ 4) (fun k => 4 - k) 0 (ai_cons (t := 9) rfl (ai_cons (t := 5) rfl (ai_cons (t := 6) rfl (ai_cons (t := 7) rfl ai_nil)))) ?_ ?_
        · exact ⟨hx0, hs, n5o, (a15o.congr (by rw [show x.1 = -1 by omega]; exact flip0_zero _)), (by omega), Nat.zero_le _⟩
        · intro k G11 hI
          obtain ⟨hx0, hs, n5o, a15o, hz, hk⟩ := hI
          have hx0z := hx0.size
          have hfl := flip0_len ((l.drop 0).reverse ++ [l.getD at'.toNat default]) k
          have hfl2 : ((l.drop 0).reverse ++ [l.getD at'.toNat default]).length = l.length + 1 := by simp
          refine hw_seq ?_
          refine hw_seq ?_
          refine hw_region ?_
          refine hl_v (v_move rfl) rfl ?_
          refine hl_v (v_lss rfl rfl) rfl ?_
          refine hl_nil ?_
          refine thenQ_n ?_
          refine hw_sub _ (ai_cons (t := 5) rfl (ai_cons (t := 6) rfl (ai_cons (t := 7) rfl (ai_cons (t := 9) rfl (ai_cons (t := 54) rfl ai_nil))))) ?_
          refine hw_cond rfl (fun hc17 => ?_) (fun hc17 => ?_)
          · try simp only [decide_eq_true_eq, decide_eq_false_iff_not, Bool.and_eq_true, Bool.and_eq_false_iff, Bool.or_eq_true, Bool.or_eq_false_iff, Bool.not_eq_true', Bool.not_eq_false', Bool.not_eq_true, Bool.not_eq_false, beq_iff_eq, Int.not_lt, Int.not_le] at hc17
            refine hw_skip ?_
            refine thenQ_n ?_
            refine hw_seq ?_
            refine hw_block ?_
            refine hw_seq ?_
            have howlt : ∀ b, b ∈ mb v16 → b < G11.size := fun b hb => (Ow.lt a15o b hb).2
            refine hw_region ?_
            refine hl_v (v_move rfl) rfl ?_
            refine hl_v (v_ixL Try.underlying48 Try.sizeOf31 rfl rfl (by first | assumption | exact Ow.sl0 (by assumption)) (by first | omega | assumption | (simp only [Int.toNat_natCast]; omega) | (simp; done) | (simp at *; omega))) rfl ?_
            refine hl_v (v_loadFl Try.isAgg31 Try.sizeOf31 rfl (by first | assumption | exact Ow.sl0 (by assumption)) rfl (by first | omega | assumption | (simp only [Int.toNat_natCast]; omega) | (simp; done) | (simp at *; omega))) rfl ?_
            refine hl_h (h_allocS Try.zeroValue31) rfl ?_
            rintro _ H18 ⟨rfl, n19⟩
            have n19s := n19.size
            replace hx0 := Ext.trans hx0 n19.ext
            replace hs := Sl.ext0 hs n19.ext
            replace n5o := Ow.ext0 n5o n19.ext
            replace a15o := Ow.ext0 a15o n19.ext
            have n19b := n19.blk
            refine hl_s (h_storeS Try.sizeOf31 rfl rfl n19b) ?_
            rintro _ H20 p21
            have p21s := p21.size
            replace hx0 := Ext.fresh hx0 p21.ext (by intro b hb; simp at hb; omega)
            replace hs := Sl.ext hs p21.ext (by intro b hb; (try have hSb := hS b hb); (try simp only [mb, List.mem_singleton] at hb); simp; (try have hsp := n5lt _ hb); (try have hsq := n5lt _ hm); (try have hsr := howlt _ hb); (try have hst := howlt _ hm); omega)
            replace n5o := Ow.ext n5o p21.ext (by intro b hb; have hlb := Ow.lt n5o b hb; (try simp only [mb, List.mem_singleton] at hb); simp; (try have hsp := n5lt _ hb); (try have hsq := n5lt _ hm); (try have hsr := howlt _ hb); (try have hst := howlt _ hm); omega)
            replace a15o := Ow.ext a15o p21.ext (by intro b hb; have hlb := Ow.lt a15o b hb; (try simp only [mb, List.mem_singleton] at hb); simp; (try have hsp := n5lt _ hb); (try have hsq := n5lt _ hm); (try have hsr := howlt _ hb); (try have hst := howlt _ hm); omega)
            replace n19b := p21.blk
            refine hl_nil ?_
            refine thenQ_n ?_
            refine hw_sub _ (ai_cons (t := 5) rfl (ai_cons (t := 6) rfl (ai_cons (t := 7) rfl (ai_cons (t := 9) rfl (ai_cons (t := 10) rfl ai_nil))))) ?_
            refine hw_seq ?_
            refine hw_region ?_
            refine hl_v (v_move rfl) rfl ?_
            refine hl_v (v_move rfl) rfl ?_
            refine hl_v (v_ixS Try.underlying31 Try.sizeOf29 rfl rfl (by first | omega | assumption | (simp only [Int.toNat_natCast]; omega) | (simp; done) | (simp at *; omega))) rfl ?_
            refine hl_v (v_loadW Try.isAgg29 rfl (by first | exact n19b | assumption) (by first | omega | assumption | (simp only [Int.toNat_natCast]; omega) | (simp; done) | (simp at *; omega))) rfl ?_
            refine hl_v (v_not64 rfl) rfl ?_
            refine hl_v (v_ixS Try.underlying31 Try.sizeOf29 rfl rfl (by first | omega | assumption | (simp only [Int.toNat_natCast]; omega) | (simp; done) | (simp at *; omega))) rfl ?_
            refine hl_s (h_storeW Try.sizeOf29 rfl rfl n19b (by first | omega | assumption | (simp only [Int.toNat_natCast]; omega) | (simp; done) | (simp at *; omega))) ?_
            rintro _ H22 p23
            have p23s := p23.size
            replace hx0 := Ext.fresh hx0 p23.ext (by intro b hb; simp at hb; omega)
            replace hs := Sl.ext hs p23.ext (by intro b hb; (try have hSb := hS b hb); (try simp only [mb, List.mem_singleton] at hb); simp; (try have hsp := n5lt _ hb); (try have hsq := n5lt _ hm); (try have hsr := howlt _ hb); (try have hst := howlt _ hm); omega)
            replace n5o := Ow.ext n5o p23.ext (by intro b hb; have hlb := Ow.lt n5o b hb; (try simp only [mb, List.mem_singleton] at hb); simp; (try have hsp := n5lt _ hb); (try have hsq := n5lt _ hm); (try have hsr := howlt _ hb); (try have hst := howlt _ hm); omega)
            replace a15o := Ow.ext a15o p23.ext (by intro b hb; have hlb := Ow.lt a15o b hb; (try simp only [mb, List.mem_singleton] at hb); simp; (try have hsp := n5lt _ hb); (try have hsq := n5lt _ hm); (try have hsr := howlt _ hb); (try have hst := howlt _ hm); omega)
            replace n19b := p23.blk
            refine hl_nil ?_
            refine thenQ_n ?_
            refine hw_sub _ (ai_cons (t := 5) rfl (ai_cons (t := 6) rfl (ai_cons (t := 7) rfl (ai_cons (t := 9) rfl (ai_cons (t := 10) rfl ai_nil))))) ?_
            refine hw_region ?_
            refine hl_v (v_move rfl) rfl ?_
            refine hl_v (v_loadS Try.isAgg31 Try.sizeOf31 rfl (by first | exact n19b | assumption)) rfl ?_
            refine hl_v (v_ixL Try.underlying48 Try.sizeOf31 rfl rfl (by first | assumption | exact Ow.sl0 (by assumption)) (by first | omega | assumption | (simp only [Int.toNat_natCast]; omega) | (simp; done) | (simp at *; omega))) rfl ?_
            refine hl_s (h_storeOwA Try.sizeOf31 rfl rfl rfl a15o (by first | omega | assumption | (simp only [Int.toNat_natCast]; omega) | (simp; done) | (simp at *; omega)) rfl) ?_
            rintro _ H24 p25
            have p25s := p25.size
            replace hx0 := Ext.fresh hx0 p25.ext (by intro b hb; exact Or.inl (Nat.le_trans (by omega) (Ow.lt a15o b hb).1))
            replace hs := Sl.ext hs p25.ext (by intro b hb; (try have hSb := hS b hb); intro hm; have hlt := Ow.lt a15o _ hm; (try simp only [mb, List.mem_singleton] at hb); (try simp only [mb, List.mem_singleton] at hm); (try have hsp := n5lt _ hb); (try have hsq := n5lt _ hm); (try have hsr := howlt _ hb); (try have hst := howlt _ hm); omega)
            replace n5o := Ow.ext n5o p25.ext (by intro b hb; have hlb := Ow.lt n5o b hb; intro hm; have hlt := Ow.lt a15o _ hm; (try simp only [mb, List.mem_singleton] at hb); (try simp only [mb, List.mem_singleton] at hm); (try have hsp := n5lt _ hb); (try have hsq := n5lt _ hm); (try have hsr := howlt _ hb); (try have hst := howlt _ hm); omega)
            replace n19b := Ext.blk p25.ext n19b (by intro hm; have hlt := Ow.lt a15o _ hm; (try simp only [mb, List.mem_singleton] at hb); (try simp only [mb, List.mem_singleton] at hm); (try have hsp := n5lt _ hb); (try have hsq := n5lt _ hm); (try have hsr := howlt _ hb); (try have hst := howlt _ hm); omega)
            replace a15o := p25.ow
            refine hl_nil ?_
            refine blockQ_n ?_
            refine thenQ_n ?_
            refine hw_region ?_
            refine hl_v (v_move rfl) rfl ?_
            refine hl_v (v_add rfl rfl (by first | omega | assumption | (simp only [Int.toNat_natCast]; omega) | (simp; done) | (simp at *; omega))) rfl ?_
            refine hl_v (v_assign rfl) rfl ?_
            refine hl_nil ?_
            refine thenQ_n ?_
            refine ⟨k + 1, (ai_cons (t := 9) rfl (ai_cons (t := 5) rfl (ai_cons (t := 6) rfl (ai_cons (t := 7) rfl ai_nil)))), ?_, ?_⟩
            · skip
              exact ⟨hx0, hs, n5o, (a15o.congr (flip0_step (by simp) (by omega))), (by omega), by omega⟩
            · omega
          · try simp only [decide_eq_true_eq, decide_eq_false_iff_not, Bool.and_eq_true, Bool.and_eq_false_iff, Bool.or_eq_true, Bool.or_eq_false_iff, Bool.not_eq_true', Bool.not_eq_false', Bool.not_eq_true, Bool.not_eq_false, beq_iff_eq, Int.not_lt, Int.not_le] at hc17
            refine hw_exit ?_
            refine thenQ_e ?_
            refine thenQ_e ?_
            refine blockQ_hit ?_
            refine thenQ_n ?_
            refine hw_seq ?_
            refine hw_region ?_
            refine hl_v (v_move rfl) rfl ?_
            refine hl_h (h_call Try.call28 (evs_cons rfl evs_nil) (Parts_spec (by first | with_reducible assumption | exact Ow.sl0 (by with_reducible assumption) | assumption | exact Ow.sl0 (by assumption)) (by first | assumption | exact fun _ h => h | exact fun b hb => (Ow.lt (by assumption) b hb).2 | (intro b hb; have hSb := hS b hb; omega)))) rfl ?_
            rintro _ H26 ⟨n27u, rfl, n27o, n27⟩
            have n27s := n27.size
            replace hx0 := Ext.trans hx0 n27
            replace hs := Sl.ext0 hs n27
            replace n5o := Ow.ext0 n5o n27
            replace a15o := Ow.ext0 a15o n27
            refine hl_v (v_move rfl) rfl ?_
            refine hl_v (v_extract rfl rfl) rfl ?_
            refine hl_v (v_extract rfl rfl) rfl ?_
            refine hl_v (v_assign rfl) rfl ?_
            refine hl_v (v_assign rfl) rfl ?_
            refine hl_nil ?_
            refine thenQ_n ?_
            refine hw_sub _ (ai_cons (t := 5) rfl (ai_cons (t := 6) rfl (ai_cons (t := 11) rfl (ai_cons (t := 12) rfl ai_nil)))) ?_
            refine hw_seq ?_
            refine hw_region ?_
            refine hl_h (h_call Try.call32 evs_nil (awake2_spec)) rfl ?_
            rintro _ H28 ⟨rfl, n29⟩
            have n29s := n29.size
            replace hx0 := Ext.trans hx0 n29
            replace hs := Sl.ext0 hs n29
            replace n5o := Ow.ext0 n5o n29
            replace a15o := Ow.ext0 a15o n29
            replace n27o := Ow.ext0 n27o n29
            refine hl_v (v_move rfl) rfl ?_
            refine hl_g rfl rfl (fun hg => (v_move rfl)) rfl ?_
            refine hl_g rfl rfl (fun hg => (v_eql (gv_ok rfl hg) rfl)) rfl ?_
            refine hl_v (v_and rfl rfl) rfl ?_
            refine hl_v (v_move rfl) rfl ?_
            refine hl_g rfl rfl (fun hg => (v_move rfl)) rfl ?_
            refine hl_g rfl rfl (fun hg => (v_eql (gv_ok rfl hg) rfl)) rfl ?_
            refine hl_v (v_and rfl rfl) rfl ?_
            refine hl_v (v_move rfl) rfl ?_
            refine hl_g rfl rfl (fun hg => (v_move rfl)) rfl ?_
            refine hl_g rfl rfl (fun hg => (v_move rfl)) rfl ?_
            refine hl_g rfl rfl (fun hg => (v_call Try.call33 (evs_cons (gv_ok rfl hg) (evs_cons (gv_ok rfl hg) evs_nil)) (Same_spec (by first | with_reducible assumption | exact Ow.sl0 (by with_reducible assumption) | exact Ow.sl0 (Ow.toInt (by with_reducible assumption)) | assumption | exact Ow.sl0 (by assumption)) (by first | with_reducible assumption | exact Ow.sl0 (by with_reducible assumption) | exact Ow.sl0 (Ow.toInt (by with_reducible assumption)) | assumption | exact Ow.sl0 (by assumption))))) rfl ?_
            refine hl_v (v_and rfl rfl) rfl ?_
            refine hl_v (v_assign rfl) rfl ?_
            refine hl_nil ?_
            refine thenQ_n ?_
            refine hw_sub _ (ai_cons (t := 4) rfl ai_nil) ?_
            refine hw_ret ?_
            refine ret_i _ (ra_t rfl ra_nil) ?_
            refine ⟨congrArg Value.bool ?_, hx0⟩
            have hk4 : k = 4 := by omega
            rw [hk4] at hfl ⊢
            rw [hfl, hfl2, if_pos (by omega), if_pos (by omega), if_pos (by omega), if_pos (by omega), same_law (by omega)]
            simp

end Go.Proofs.Ytbfgjdhdohfacaa
