/- Walks of layer 2 (part). No condition. -/
import Derived.Test.YtbfgjdhdohfacaaL01
import Derived.Test.YtbfgjdhdohfacaaPlain02b
set_option linter.unusedVariables false
set_option linter.unusedSimpArgs false
namespace Go.Proofs.Ytbfgjdhdohfacaa
open Go.Proofs
theorem Sets_spec {v0 : Value} {c : List Int} {S : Nat → Prop} {H : Heap} (hs : Sl fInt.rep H S v0 c) (hS : ∀ b, S b → b < H.size) : HC Try.prog 44 [v0] H (fun v H' => ∃ u, v = .tuple #[u, .int .i64 (if okB c then 0 else 1)] ∧ Ow fSet H' H.size 31 u (if okB c then partsK c 256 else []) ∧ Ext [] H H') := by
  have hx0 : Ext [] H H := Ext.refl _
  refine hc_of_hw (N := 49) (rs := [(.tmp 2), (.tmp 3)]) Try.func44 rfl rfl rfl rfl ?_
  refine hw_seq ?_
  refine hw_region ?_
  refine hl_v (v_assign rfl) rfl ?_
  refine hl_v (v_assign rfl) rfl ?_
  refine hl_nil ?_
  refine thenQ_n ?_
  refine hw_sub _ (ai_cons (t := 0) rfl ai_nil) ?_
  refine hw_seq ?_
  refine hw_seq ?_
  refine hw_region ?_
  refine hl_v (v_move rfl) rfl ?_
  refine hl_v (v_lenL rfl Try.underlying51 rfl (by first | assumption | exact Ow.sl0 (by assumption))) rfl ?_
  refine hl_v (v_neq rfl rfl) rfl ?_
  refine hl_nil ?_
  refine thenQ_n ?_
  refine hw_sub _ (ai_cons (t := 0) rfl (ai_cons (t := 9) rfl ai_nil)) ?_
  refine hw_cond rfl (fun hc1 => ?_) (fun hc1 => ?_)
  · try simp only [decide_eq_true_eq, decide_eq_false_iff_not, Bool.and_eq_true, Bool.and_eq_false_iff, Bool.or_eq_true, Bool.or_eq_false_iff, Bool.not_eq_true', Bool.not_eq_false', Bool.not_eq_true, Bool.not_eq_false, beq_iff_eq, Int.not_lt, Int.not_le] at hc1
    refine hw_seq ?_
    refine hw_region ?_
    refine hl_v (v_assign rfl) rfl ?_
    refine hl_v (v_assign rfl) rfl ?_
    refine hl_nil ?_
    refine thenQ_n ?_
    refine hw_sub _ (ai_cons (t := 2) rfl (ai_cons (t := 3) rfl ai_nil)) ?_
    refine hw_ret ?_
    refine thenQ_r ?_
    refine ret_i _ (ra_t rfl (ra_t rfl ra_nil)) ?_
    rw [okB_len (by omega)]
    exact ⟨_, rfl, Ow.nil, hx0⟩
  · try simp only [decide_eq_true_eq, decide_eq_false_iff_not, Bool.and_eq_true, Bool.and_eq_false_iff, Bool.or_eq_true, Bool.or_eq_false_iff, Bool.not_eq_true', Bool.not_eq_false', Bool.not_eq_true, Bool.not_eq_false, beq_iff_eq, Int.not_lt, Int.not_le] at hc1
    refine hw_skip ?_
    refine thenQ_n ?_
    refine hw_seq ?_
    refine hw_region ?_
    refine hl_v (v_assign rfl) rfl ?_
    refine hl_nil ?_
    refine thenQ_n ?_
    refine hw_sub _ (ai_cons (t := 0) rfl (ai_cons (t := 4) rfl ai_nil)) ?_
    refine hw_seq ?_
    refine hw_seq ?_
    refine hw_region ?_
    refine hl_v (v_move rfl) rfl ?_
    refine hl_v (v_lenL rfl Try.underlying51 rfl (by first | assumption | exact Ow.sl0 (by assumption))) rfl ?_
    refine hl_v (v_move rfl) rfl ?_
    refine hl_nil ?_
    refine thenQ_n ?_
    refine hw_sub _ (ai_cons (t := 4) rfl (ai_cons (t := 10) rfl (ai_cons (t := 11) rfl (ai_cons (t := 12) rfl ai_nil)))) ?_
    refine hw_block ?_
    refine hw_loop (α := Nat × Value) [(10, _), (11, _)] (fun x => [(4, x.2), (12, .int .i64 (x.1 : Int))]) (fun x G5 => Ext [] H G5 ∧ Sl fInt.rep G5 S v0 c ∧ Ow fSet G5 H.size 31 x.2 (partsK c x.1) ∧ x.1 ≤ 256 ∧ okTo c x.1) (fun x => 256 - x.1) (0, .slice none 0 0) (ai_cons (t := 4) rfl (ai_cons (t := 12) rfl (ai_cons (t := 10) rfl (ai_cons (t := 11) rfl ai_nil)))) ?_ ?_
    · exact ⟨hx0, hs, Ow.nil, ⟨Nat.zero_le _, fun m hm => absurd hm (Nat.not_lt_zero _)⟩⟩
    · intro x G5 hI
      obtain ⟨hx0, hs, ow, ⟨hk, hok⟩⟩ := hI
      have hx0z := hx0.size
      have hpl := partsK_len c x.1
      have htl := top_le c x.1
      refine hw_seq ?_
      refine hw_region ?_
      refine hl_v (v_lss rfl rfl) rfl ?_
      refine hl_nil ?_
      refine thenQ_n ?_
      refine hw_sub _ (ai_cons (t := 4) rfl (ai_cons (t := 10) rfl (ai_cons (t := 11) rfl (ai_cons (t := 12) rfl (ai_cons (t := 13) rfl ai_nil))))) ?_
      refine hw_seq ?_
      refine hw_cond rfl (fun hc2 => ?_) (fun hc2 => ?_)
      · try simp only [decide_eq_true_eq, decide_eq_false_iff_not, Bool.and_eq_true, Bool.and_eq_false_iff, Bool.or_eq_true, Bool.or_eq_false_iff, Bool.not_eq_true', Bool.not_eq_false', Bool.not_eq_true, Bool.not_eq_false, beq_iff_eq, Int.not_lt, Int.not_le] at hc2
        refine hw_skip ?_
        refine thenQ_n ?_
        refine hw_seq ?_
        refine hw_block ?_
        refine hw_seq ?_
        refine hw_region ?_
        refine hl_v (v_move rfl) rfl ?_
        refine hl_v (v_ixL Try.underlying51 Try.sizeOf3 rfl rfl (by first | assumption | exact Ow.sl0 (by assumption)) (by first | omega | assumption | (simp only [Int.toNat_natCast]; omega) | (simp; done) | (simp at *; omega))) rfl ?_
        refine hl_v (v_loadSc Try.isAgg3 rfl (by first | assumption | exact Ow.sl0 (by assumption)) rfl (by first | omega | assumption | (simp only [Int.toNat_natCast]; omega) | (simp; done) | (simp at *; omega)) rfl) rfl ?_
        refine hl_v (v_assign rfl) rfl ?_
        refine hl_v (v_assign rfl) rfl ?_
        refine hl_nil ?_
        refine thenQ_n ?_
        refine hw_sub _ (ai_cons (t := 4) rfl (ai_cons (t := 5) rfl (ai_cons (t := 6) rfl (ai_cons (t := 10) rfl (ai_cons (t := 11) rfl (ai_cons (t := 12) rfl ai_nil)))))) ?_
        refine hw_seq ?_
        refine hw_block ?_
        refine hw_seq ?_
        refine hw_region ?_
        refine hl_v (v_move rfl) rfl ?_
        refine hl_v (v_lss rfl rfl) rfl ?_
        refine hl_v (v_move rfl) rfl ?_
        refine hl_g rfl rfl (fun hg => (v_move rfl)) rfl ?_
        refine hl_g rfl rfl (fun hg => (v_move rfl)) rfl ?_
        refine hl_g rfl rfl (fun hg => (v_lenL rfl Try.underlying48 (gv_ok rfl hg) (by first | assumption | exact Ow.sl0 (by assumption)))) rfl ?_
        refine hl_g rfl rfl (fun hg => (v_gtr (gv_ok rfl hg) (gv_ok rfl hg))) rfl ?_
        refine hl_v (v_or rfl rfl) rfl ?_
        refine hl_v (v_assign rfl) rfl ?_
        refine hl_nil ?_
        refine thenQ_n ?_
        refine hw_sub _ (ai_cons (t := 4) rfl (ai_cons (t := 5) rfl (ai_cons (t := 6) rfl (ai_cons (t := 10) rfl (ai_cons (t := 11) rfl (ai_cons (t := 12) rfl (ai_cons (t := 17) rfl ai_nil))))))) ?_
        refine hw_cond rfl (fun hc3 => ?_) (fun hc3 => ?_)
        · try simp only [decide_eq_true_eq, decide_eq_false_iff_not, Bool.and_eq_true, Bool.and_eq_false_iff, Bool.or_eq_true, Bool.or_eq_false_iff, Bool.not_eq_true', Bool.not_eq_false', Bool.not_eq_true, Bool.not_eq_false, beq_iff_eq, Int.not_lt, Int.not_le] at hc3
          refine hw_seq ?_
          refine hw_region ?_
          refine hl_v (v_assign rfl) rfl ?_
          refine hl_v (v_assign rfl) rfl ?_
          refine hl_nil ?_
          refine thenQ_n ?_
          refine hw_sub _ (ai_cons (t := 2) rfl (ai_cons (t := 3) rfl ai_nil)) ?_
          refine hw_ret ?_
          refine blockQ_r ?_
          refine thenQ_r ?_
          refine blockQ_r ?_
          refine thenQ_r ?_
          refine thenQ_r ?_
          refine blockQ_r ?_
          refine thenQ_r ?_
          refine ret_i _ (ra_t rfl (ra_t rfl ra_nil)) ?_
          rw [okB_bad (m := x.1) (by omega) (by rcases hc3 with h | h; exact .inl h; exact .inr (by rw [partsK_len] at h; exact h))]
          exact ⟨_, rfl, Ow.nil, hx0⟩
        · try simp only [decide_eq_true_eq, decide_eq_false_iff_not, Bool.and_eq_true, Bool.and_eq_false_iff, Bool.or_eq_true, Bool.or_eq_false_iff, Bool.not_eq_true', Bool.not_eq_false', Bool.not_eq_true, Bool.not_eq_false, beq_iff_eq, Int.not_lt, Int.not_le] at hc3
          refine hw_seq ?_
          refine hw_region ?_
          refine hl_v (v_move rfl) rfl ?_
          refine hl_v (v_move rfl) rfl ?_
          refine hl_v (v_lenL rfl Try.underlying48 rfl (by first | assumption | exact Ow.sl0 (by assumption))) rfl ?_
          refine hl_v (v_eql rfl rfl) rfl ?_
          refine hl_v (v_assign rfl) rfl ?_
          refine hl_nil ?_
          refine thenQ_n ?_
          refine hw_sub _ (ai_cons (t := 4) rfl (ai_cons (t := 5) rfl (ai_cons (t := 6) rfl (ai_cons (t := 10) rfl (ai_cons (t := 11) rfl (ai_cons (t := 12) rfl (ai_cons (t := 26) rfl ai_nil))))))) ?_
          refine hw_cond rfl (fun hc4 => ?_) (fun hc4 => ?_)
          · try simp only [decide_eq_true_eq, decide_eq_false_iff_not, Bool.and_eq_true, Bool.and_eq_false_iff, Bool.or_eq_true, Bool.or_eq_false_iff, Bool.not_eq_true', Bool.not_eq_false', Bool.not_eq_true, Bool.not_eq_false, beq_iff_eq, Int.not_lt, Int.not_le] at hc4
            refine hw_region ?_
            refine hl_v (v_move rfl) rfl ?_
            refine hl_v (v_buildS0 Try.underlying31 Try.zeroValue31 Try.sizeOf29) rfl ?_
            refine hl_h (h_buildSlice (xs := [.tmp 32]) Try.underlying48 Try.sizeOf31 Try.zeroValue31 rfl (evs_cons rfl evs_nil) rfl (by decide) (by decide) (by intro v hv; simp only [List.mem_cons, List.not_mem_nil, or_false] at hv; rcases hv with rfl <;> rfl)) rfl ?_
            rintro _ H5 ⟨rfl, n6⟩
            have n6s := n6.size
            replace hx0 := Ext.trans hx0 n6.ext
            replace hs := Sl.ext0 hs n6.ext
            replace ow := Ow.ext0 ow n6.ext
            have n6o := Ow.new (g := fSet) (l := [_]) (B := G5.size) n6 rfl (by omega) (by simp)
            refine hl_h (h_append (g := fSet) (B := _) rfl Try.underlying48 Try.type31 rfl rfl rfl rfl (by decide) rfl rfl ow (by first | assumption | exact Ow.sl0 (by assumption)) (by first | (rw [show Try.t31.bytes = 32 from rfl]; simp only [List.length_append, List.length_cons, List.length_nil]; omega) | (rw [show Try.t31.bytes = 32 from rfl]; omega) | omega | (simp only [List.length_append, List.length_cons, List.length_nil]; omega) | assumption | (simp; done)) (by first | (rw [show Try.t31.bytes = 32 from rfl]; simp only [List.length_append, List.length_cons, List.length_nil]; omega) | (rw [show Try.t31.bytes = 32 from rfl]; omega) | omega | (simp only [List.length_append, List.length_cons, List.length_nil]; omega) | assumption | (simp; done)) (by first | (rw [show Try.t31.bytes = 32 from rfl]; simp only [List.length_append, List.length_cons, List.length_nil]; omega) | (rw [show Try.t31.bytes = 32 from rfl]; omega) | omega | (simp only [List.length_append, List.length_cons, List.length_nil]; omega) | assumption | (simp; done))) rfl ?_
            rintro v9 H7 ⟨a8o, a8x, a8n, a8b⟩
            have a8s := a8x.size
            replace hx0 := Ext.fresh hx0 a8x (by intro b hb; exact Or.inl (Nat.le_trans (by omega) (Ow.lt ow b hb).1))
            replace hs := Sl.ext hs a8x (by intro b hb; (try have hSb := hS b hb); intro hm; have hlt := Ow.lt ow _ hm; (try simp only [mb, List.mem_singleton] at hb); (try simp only [mb, List.mem_singleton] at hm); omega)
            refine hl_v (v_assign rfl) rfl ?_
            refine hl_nil ?_
            refine blockQ_n ?_
            refine thenQ_n ?_
            refine hw_held2 12 (fun H' => Ext [] H7 H') (.step 0 false (.step 1 false (.step 2 false (.step 3 false (.step 4 false (.step 5 false (.step 6 false (.step 7 false (.step 8 true (.step 9 true (.step 10 true (.step 11 false .done)))))))))))) (.step 12 true .done) Try.mixed (by kernel_rfl) ?_ ?_
            · exact Ext.refl _
            have xr10 : Ext [] H7 H7 := Ext.refl _
            have hsR := hs
            have a8oR := a8o
            refine hd_v rfl (fun H' hS => (v_move rfl)) rfl ?_
            refine hd_v rfl (fun H' hS => (v_move rfl)) rfl ?_
            refine hd_v rfl (fun H' hS => (v_move rfl)) rfl ?_
            refine hd_v rfl (fun H' hS => (v_move rfl)) rfl ?_
            refine hd_v rfl (fun H' hS => (v_ixL Try.underlying48 Try.sizeOf31 rfl rfl (by first | assumption | exact Ow.sl0 (by assumption) | exact Sl.ext0 (by assumption) hS | exact Sl.ext0 (Ow.sl0 (by assumption)) hS) (by first | omega | assumption | (simp only [Int.toNat_natCast]; omega) | (simp; done) | (simp at *; omega)))) rfl ?_
            refine hd_v rfl (fun H' hS => (v_loadFl Try.isAgg31 Try.sizeOf31 rfl (by first | assumption | exact Ow.sl0 (by assumption) | exact Sl.ext0 (by assumption) hS | exact Sl.ext0 (Ow.sl0 (by assumption)) hS) rfl (by first | omega | assumption | (simp only [Int.toNat_natCast]; omega) | (simp; done) | (simp at *; omega)))) rfl ?_
            refine hd_v rfl (fun H' hS => (v_move rfl)) rfl ?_
            refine hd_v rfl (fun H' hS => (v_toB (by rw [Try.underlying3]; rfl) Try.underlying5 rfl (by first | omega | assumption | (simp only [Int.toNat_natCast]; omega) | (simp; done) | (simp at *; omega)))) rfl ?_
            refine hd_h (h_buildSlice (xs := [.tmp 42]) Try.underlying28 Try.sizeOf5 Try.zeroValue5 rfl (evs_cons rfl evs_nil) rfl (by decide) (by decide) (by intro v hv; simp only [List.mem_cons, List.not_mem_nil, or_false] at hv; rcases hv with rfl <;> rfl)) (fun _ _ hR => Ext.trans xr10 (hR.2.ext)) rfl ?_
            rintro _ H11 ⟨rfl, n12⟩
            have n12s := n12.size
            replace hx0 := Ext.trans hx0 n12.ext
            replace hs := Sl.ext0 hs n12.ext
            replace a8o := Ow.ext0 a8o n12.ext
            have n12o := Ow.new (g := fByte) (l := [_]) (B := H7.size) n12 rfl (by omega) (by simp)
            replace xr10 := Ext.trans xr10 n12.ext
            refine hd_h (h_call Try.call18 (evs_cons rfl evs_nil) (Of_spec (by first | assumption | exact Ow.sl0 (by assumption)) (by first | assumption | exact fun _ h => h | exact fun b hb => (Ow.lt (by assumption) b hb).2 | (intro b hb; have hSb := hS b hb; omega)))) (fun _ _ hR => Ext.trans xr10 (hR.2)) rfl ?_
            rintro _ H13 ⟨rfl, n14⟩
            have n14s := n14.size
            replace hx0 := Ext.trans hx0 n14
            replace hs := Sl.ext0 hs n14
            replace a8o := Ow.ext0 a8o n14
            replace n12o := Ow.ext0 n12o n14
            replace xr10 := Ext.trans xr10 n14
            refine hd_h (h_call Try.call25 (evs_cons rfl (evs_cons rfl evs_nil)) (Any_spec)) (fun _ _ hR => Ext.trans xr10 (hR.2)) rfl ?_
            rintro _ H15 ⟨rfl, n16⟩
            have n16s := n16.size
            replace hx0 := Ext.trans hx0 n16
            replace hs := Sl.ext0 hs n16
            replace a8o := Ow.ext0 a8o n16
            replace n12o := Ow.ext0 n12o n16
            replace xr10 := Ext.trans xr10 n16
            refine hd_v rfl (fun H' hS => (v_ixL Try.underlying48 Try.sizeOf31 rfl rfl (by first | assumption | exact Ow.sl0 (by assumption) | exact Sl.ext0 (by assumption) hS | exact Sl.ext0 (Ow.sl0 (by assumption)) hS) (by first | omega | assumption | (simp only [Int.toNat_natCast]; omega) | (simp; done) | (simp at *; omega)))) rfl ?_
            refine hd_nil ?_
            refine hd_s (h_storeOwA Try.sizeOf31 rfl rfl rfl a8o (by first | omega | assumption | (simp only [Int.toNat_natCast]; omega) | (simp; done) | (simp at *; omega)) rfl) (fun _ _ _ => trivial) ?_
            rintro _ H17 p18
            have p18s := p18.size
            replace hx0 := Ext.fresh hx0 p18.ext (by intro b hb; exact Or.inl (Nat.le_trans (by omega) (Ow.lt a8o b hb).1))
            replace hs := Sl.ext hs p18.ext (by intro b hb; (try have hSb := hS b hb); intro hm; have hlt := Ow.lt a8o _ hm; (try simp only [mb, List.mem_singleton] at hb); (try simp only [mb, List.mem_singleton] at hm); omega)
            replace a8o := p18.ow
            refine hd_nil ?_
            refine blockQ_n ?_
            refine thenQ_n ?_
            refine hw_region ?_
            refine hl_v (v_add rfl rfl (by first | omega | assumption | (simp only [Int.toNat_natCast]; omega) | (simp; done) | (simp at *; omega))) rfl ?_
            refine hl_v (v_move rfl) rfl ?_
            refine hl_nil ?_
            refine thenQ_n ?_
            refine ⟨(x.1 + 1, _), (ai_cons (t := 4) rfl (ai_cons (t := 12) rfl (ai_cons (t := 10) rfl (ai_cons (t := 11) rfl ai_nil)))), ?_, ?_⟩
            · skip
              exact ⟨hx0, hs, (a8o.congr (partsK_new (by omega) hok (by rw [partsK_len] at hc4; exact hc4))), ⟨by omega, okTo_succ hok hc3.1 (by have h1 := hc3.2; rw [partsK_len] at h1; exact h1)⟩⟩
            · omega
          · try simp only [decide_eq_true_eq, decide_eq_false_iff_not, Bool.and_eq_true, Bool.and_eq_false_iff, Bool.or_eq_true, Bool.or_eq_false_iff, Bool.not_eq_true', Bool.not_eq_false', Bool.not_eq_true, Bool.not_eq_false, beq_iff_eq, Int.not_lt, Int.not_le] at hc4
            refine hw_skip ?_
            refine blockQ_n ?_
            refine thenQ_n ?_
            refine hw_held2 12 (fun H' => Ext [] G5 H') (.step 0 false (.step 1 false (.step 2 false (.step 3 false (.step 4 false (.step 5 false (.step 6 false (.step 7 false (.step 8 true (.step 9 true (.step 10 true (.step 11 false .done)))))))))))) (.step 12 true .done) Try.mixed (by kernel_rfl) ?_ ?_
            · exact Ext.refl _
            have xr19 : Ext [] G5 G5 := Ext.refl _
            have hsR := hs
            have owR := ow
            refine hd_v rfl (fun H' hS => (v_move rfl)) rfl ?_
            refine hd_v rfl (fun H' hS => (v_move rfl)) rfl ?_
            refine hd_v rfl (fun H' hS => (v_move rfl)) rfl ?_
            refine hd_v rfl (fun H' hS => (v_move rfl)) rfl ?_
            refine hd_v rfl (fun H' hS => (v_ixL Try.underlying48 Try.sizeOf31 rfl rfl (by first | assumption | exact Ow.sl0 (by assumption) | exact Sl.ext0 (by assumption) hS | exact Sl.ext0 (Ow.sl0 (by assumption)) hS) (by first | omega | assumption | (simp only [Int.toNat_natCast]; omega) | (simp; done) | (simp at *; omega)))) rfl ?_
            refine hd_v rfl (fun H' hS => (v_loadFl Try.isAgg31 Try.sizeOf31 rfl (by first | assumption | exact Ow.sl0 (by assumption) | exact Sl.ext0 (by assumption) hS | exact Sl.ext0 (Ow.sl0 (by assumption)) hS) rfl (by first | omega | assumption | (simp only [Int.toNat_natCast]; omega) | (simp; done) | (simp at *; omega)))) rfl ?_
            refine hd_v rfl (fun H' hS => (v_move rfl)) rfl ?_
            refine hd_v rfl (fun H' hS => (v_toB (by rw [Try.underlying3]; rfl) Try.underlying5 rfl (by first | omega | assumption | (simp only [Int.toNat_natCast]; omega) | (simp; done) | (simp at *; omega)))) rfl ?_
            refine hd_h (h_buildSlice (xs := [.tmp 42]) Try.underlying28 Try.sizeOf5 Try.zeroValue5 rfl (evs_cons rfl evs_nil) rfl (by decide) (by decide) (by intro v hv; simp only [List.mem_cons, List.not_mem_nil, or_false] at hv; rcases hv with rfl <;> rfl)) (fun _ _ hR => Ext.trans xr19 (hR.2.ext)) rfl ?_
            rintro _ H20 ⟨rfl, n21⟩
            have n21s := n21.size
            replace hx0 := Ext.trans hx0 n21.ext
            replace hs := Sl.ext0 hs n21.ext
            replace ow := Ow.ext0 ow n21.ext
            have n21o := Ow.new (g := fByte) (l := [_]) (B := G5.size) n21 rfl (by omega) (by simp)
            replace xr19 := Ext.trans xr19 n21.ext
            refine hd_h (h_call Try.call18 (evs_cons rfl evs_nil) (Of_spec (by first | assumption | exact Ow.sl0 (by assumption)) (by first | assumption | exact fun _ h => h | exact fun b hb => (Ow.lt (by assumption) b hb).2 | (intro b hb; have hSb := hS b hb; omega)))) (fun _ _ hR => Ext.trans xr19 (hR.2)) rfl ?_
            rintro _ H22 ⟨rfl, n23⟩
            have n23s := n23.size
            replace hx0 := Ext.trans hx0 n23
            replace hs := Sl.ext0 hs n23
            replace ow := Ow.ext0 ow n23
            replace n21o := Ow.ext0 n21o n23
            replace xr19 := Ext.trans xr19 n23
            refine hd_h (h_call Try.call25 (evs_cons rfl (evs_cons rfl evs_nil)) (Any_spec)) (fun _ _ hR => Ext.trans xr19 (hR.2)) rfl ?_
            rintro _ H24 ⟨rfl, n25⟩
            have n25s := n25.size
            replace hx0 := Ext.trans hx0 n25
            replace hs := Sl.ext0 hs n25
            replace ow := Ow.ext0 ow n25
            replace n21o := Ow.ext0 n21o n25
            replace xr19 := Ext.trans xr19 n25
            refine hd_v rfl (fun H' hS => (v_ixL Try.underlying48 Try.sizeOf31 rfl rfl (by first | assumption | exact Ow.sl0 (by assumption) | exact Sl.ext0 (by assumption) hS | exact Sl.ext0 (Ow.sl0 (by assumption)) hS) (by first | omega | assumption | (simp only [Int.toNat_natCast]; omega) | (simp; done) | (simp at *; omega)))) rfl ?_
            refine hd_nil ?_
            refine hd_s (h_storeOwA Try.sizeOf31 rfl rfl rfl ow (by first | omega | assumption | (simp only [Int.toNat_natCast]; omega) | (simp; done) | (simp at *; omega)) rfl) (fun _ _ _ => trivial) ?_
            rintro _ H26 p27
            have p27s := p27.size
            replace hx0 := Ext.fresh hx0 p27.ext (by intro b hb; exact Or.inl (Nat.le_trans (by omega) (Ow.lt ow b hb).1))
            replace hs := Sl.ext hs p27.ext (by intro b hb; (try have hSb := hS b hb); intro hm; have hlt := Ow.lt ow _ hm; (try simp only [mb, List.mem_singleton] at hb); (try simp only [mb, List.mem_singleton] at hm); omega)
            replace ow := p27.ow
            refine hd_nil ?_
            refine blockQ_n ?_
            refine thenQ_n ?_
            refine hw_region ?_
            refine hl_v (v_add rfl rfl (by first | omega | assumption | (simp only [Int.toNat_natCast]; omega) | (simp; done) | (simp at *; omega))) rfl ?_
            refine hl_v (v_move rfl) rfl ?_
            refine hl_nil ?_
            refine thenQ_n ?_
            refine ⟨(x.1 + 1, _), (ai_cons (t := 4) rfl (ai_cons (t := 12) rfl (ai_cons (t := 10) rfl (ai_cons (t := 11) rfl ai_nil)))), ?_, ?_⟩
            · skip
              exact ⟨hx0, hs, (ow.congr (partsK_old (by omega) hc3.1 (by have h1 := hc3.2; rw [partsK_len] at h1; have h2 := hc4; rw [partsK_len] at h2; show c.getD (x.1 : Int).toNat default < _; omega))), ⟨by omega, okTo_succ hok hc3.1 (by have h1 := hc3.2; rw [partsK_len] at h1; exact h1)⟩⟩
            · omega
      · try simp only [decide_eq_true_eq, decide_eq_false_iff_not, Bool.and_eq_true, Bool.and_eq_false_iff, Bool.or_eq_true, Bool.or_eq_false_iff, Bool.not_eq_true', Bool.not_eq_false', Bool.not_eq_true, Bool.not_eq_false, beq_iff_eq, Int.not_lt, Int.not_le] at hc2
        refine hw_exit ?_
        refine thenQ_e ?_
        refine thenQ_e ?_
        refine blockQ_hit ?_
        refine thenQ_n ?_
        refine hw_seq ?_
        refine hw_region ?_
        refine hl_v (v_move rfl) rfl ?_
        refine hl_v (v_assign rfl) rfl ?_
        refine hl_v (v_assign rfl) rfl ?_
        refine hl_nil ?_
        refine thenQ_n ?_
        refine hw_sub _ (ai_cons (t := 2) rfl (ai_cons (t := 3) rfl ai_nil)) ?_
        refine hw_ret ?_
        refine ret_i _ (ra_t rfl (ra_t rfl ra_nil)) ?_
        have hk6 : x.1 = 256 := by omega
        rw [hk6] at hok ow
        rw [okB_iff.2 ⟨by omega, hok⟩]
        exact ⟨_, rfl, ow, hx0⟩

theorem Same_spec {v0 v1 : Value} {l m : List BSet} {S S' : Nat → Prop} {H : Heap} (hs : Sl fSet.rep H S v0 l) (ht : Sl fSet.rep H S' v1 m) : HC Try.prog 33 [v0, v1] H (fun v H' => v = .bool (decide (l = m)) ∧ H' = H) := by
  have hcap := hs.cap
  refine hc_of_hw (N := 26) (rs := [(.tmp 4)]) Try.func33 rfl rfl rfl rfl ?_
  refine hw_seq ?_
  refine hw_region ?_
  refine hl_v (v_assign rfl) rfl ?_
  refine hl_nil ?_
  refine thenQ_n ?_
  refine hw_sub _ (ai_cons (t := 0) rfl (ai_cons (t := 1) rfl ai_nil)) ?_
  refine hw_seq ?_
  refine hw_seq ?_
  refine hw_region ?_
  refine hl_v (v_move rfl) rfl ?_
  refine hl_v (v_lenL rfl Try.underlying48 rfl (by first | assumption | exact Ow.sl0 (by assumption))) rfl ?_
  refine hl_v (v_move rfl) rfl ?_
  refine hl_v (v_lenL rfl Try.underlying48 rfl (by first | assumption | exact Ow.sl0 (by assumption))) rfl ?_
  refine hl_v (v_neq rfl rfl) rfl ?_
  refine hl_nil ?_
  refine thenQ_n ?_
  refine hw_sub _ (ai_cons (t := 0) rfl (ai_cons (t := 1) rfl (ai_cons (t := 10) rfl ai_nil))) ?_
  refine hw_cond rfl (fun hc1 => ?_) (fun hc1 => ?_)
  · try simp only [decide_eq_true_eq, decide_eq_false_iff_not, Bool.and_eq_true, Bool.and_eq_false_iff, Bool.or_eq_true, Bool.or_eq_false_iff, Bool.not_eq_true', Bool.not_eq_false', Bool.not_eq_true, Bool.not_eq_false, beq_iff_eq, Int.not_lt, Int.not_le] at hc1
    refine hw_seq ?_
    refine hw_region ?_
    refine hl_v (v_assign rfl) rfl ?_
    refine hl_nil ?_
    refine thenQ_n ?_
    refine hw_sub _ (ai_cons (t := 4) rfl ai_nil) ?_
    refine hw_ret ?_
    refine thenQ_r ?_
    refine ret_i _ (ra_t rfl ra_nil) ?_
    exact ⟨congrArg Value.bool (decide_eq_false (by rintro rfl; omega)).symm, rfl⟩
  · try simp only [decide_eq_true_eq, decide_eq_false_iff_not, Bool.and_eq_true, Bool.and_eq_false_iff, Bool.or_eq_true, Bool.or_eq_false_iff, Bool.not_eq_true', Bool.not_eq_false', Bool.not_eq_true, Bool.not_eq_false, beq_iff_eq, Int.not_lt, Int.not_le] at hc1
    refine hw_skip ?_
    refine thenQ_n ?_
    refine hw_seq ?_
    refine hw_seq ?_
    refine hw_region ?_
    refine hl_v (v_assign rfl) rfl ?_
    refine hl_nil ?_
    refine thenQ_n ?_
    refine hw_sub _ (ai_cons (t := 0) rfl (ai_cons (t := 1) rfl (ai_cons (t := 5) rfl ai_nil))) ?_
    refine hw_block ?_
    refine hw_loop (α := Nat) [(0, _), (1, _)] (fun k => [(5, .int .i64 (k : Int))]) (fun k G4 => G4 = H ∧ k ≤ l.length ∧ l.take k = m.take k) (fun k => l.length - k) 0 (ai_cons (t := 5) rfl (ai_cons (t := 0) rfl (ai_cons (t := 1) rfl ai_nil))) ?_ ?_
    · exact ⟨rfl, Nat.zero_le _, rfl⟩
    · intro k G4 hI
      obtain ⟨rfl, hk, heq⟩ := hI
      refine hw_seq ?_
      refine hw_seq ?_
      refine hw_region ?_
      refine hl_v (v_move rfl) rfl ?_
      refine hl_v (v_move rfl) rfl ?_
      refine hl_v (v_lenL rfl Try.underlying48 rfl (by first | assumption | exact Ow.sl0 (by assumption))) rfl ?_
      refine hl_v (v_lss rfl rfl) rfl ?_
      refine hl_nil ?_
      refine thenQ_n ?_
      refine hw_sub _ (ai_cons (t := 0) rfl (ai_cons (t := 1) rfl (ai_cons (t := 5) rfl (ai_cons (t := 14) rfl ai_nil)))) ?_
      refine hw_cond rfl (fun hc2 => ?_) (fun hc2 => ?_)
      · try simp only [decide_eq_true_eq, decide_eq_false_iff_not, Bool.and_eq_true, Bool.and_eq_false_iff, Bool.or_eq_true, Bool.or_eq_false_iff, Bool.not_eq_true', Bool.not_eq_false', Bool.not_eq_true, Bool.not_eq_false, beq_iff_eq, Int.not_lt, Int.not_le] at hc2
        refine hw_skip ?_
        refine thenQ_n ?_
        refine hw_seq ?_
        refine hw_block ?_
        refine hw_seq ?_
        refine hw_quiet Try.mixed (by kernel_rfl) ?_
        refine hq_v (v_move rfl) rfl ?_
        refine hq_v (v_move rfl) rfl ?_
        refine hq_v (v_ixL Try.underlying48 Try.sizeOf31 rfl rfl (by first | assumption | exact Ow.sl0 (by assumption)) (by first | omega | assumption | (simp only [Int.toNat_natCast]; omega) | (simp; done) | (simp at *; omega))) rfl ?_
        refine hq_v (v_loadFl Try.isAgg31 Try.sizeOf31 rfl (by first | assumption | exact Ow.sl0 (by assumption)) rfl (by first | omega | assumption | (simp only [Int.toNat_natCast]; omega) | (simp; done) | (simp at *; omega))) rfl ?_
        refine hq_v (v_move rfl) rfl ?_
        refine hq_v (v_move rfl) rfl ?_
        refine hq_v (v_ixL Try.underlying48 Try.sizeOf31 rfl rfl (by first | assumption | exact Ow.sl0 (by assumption)) (by first | omega | assumption | (simp only [Int.toNat_natCast]; omega) | (simp; done) | (simp at *; omega))) rfl ?_
        refine hq_v (v_loadFl Try.isAgg31 Try.sizeOf31 rfl (by first | assumption | exact Ow.sl0 (by assumption)) rfl (by first | omega | assumption | (simp only [Int.toNat_natCast]; omega) | (simp; done) | (simp at *; omega))) rfl ?_
        refine hq_v (v_neqSet Try.underlying31 Try.underlying29 Try.sizeOf29 (by kernel_rfl) rfl rfl) rfl ?_
        refine hq_nil ?_
        refine thenQ_n ?_
        refine hw_sub _ (ai_cons (t := 0) rfl (ai_cons (t := 1) rfl (ai_cons (t := 5) rfl (ai_cons (t := 25) rfl ai_nil)))) ?_
        refine hw_cond rfl (fun hc3 => ?_) (fun hc3 => ?_)
        · try simp only [decide_eq_true_eq, decide_eq_false_iff_not, Bool.and_eq_true, Bool.and_eq_false_iff, Bool.or_eq_true, Bool.or_eq_false_iff, Bool.not_eq_true', Bool.not_eq_false', Bool.not_eq_true, Bool.not_eq_false, beq_iff_eq, Int.not_lt, Int.not_le] at hc3
          refine hw_seq ?_
          refine hw_region ?_
          refine hl_v (v_assign rfl) rfl ?_
          refine hl_nil ?_
          refine thenQ_n ?_
          refine hw_sub _ (ai_cons (t := 4) rfl ai_nil) ?_
          refine hw_ret ?_
          refine blockQ_r ?_
          refine thenQ_r ?_
          refine thenQ_r ?_
          refine blockQ_r ?_
          refine thenQ_r ?_
          refine ret_i _ (ra_t rfl ra_nil) ?_
          exact ⟨congrArg Value.bool (decide_eq_false (by rintro rfl; exact hc3 rfl)).symm, rfl⟩
        · try simp only [decide_eq_true_eq, decide_eq_false_iff_not, Bool.and_eq_true, Bool.and_eq_false_iff, Bool.or_eq_true, Bool.or_eq_false_iff, Bool.not_eq_true', Bool.not_eq_false', Bool.not_eq_true, Bool.not_eq_false, beq_iff_eq, Int.not_lt, Int.not_le] at hc3
          refine hw_skip ?_
          refine blockQ_n ?_
          refine thenQ_n ?_
          refine hw_region ?_
          refine hl_v (v_move rfl) rfl ?_
          refine hl_v (v_add rfl rfl (by first | omega | assumption | (simp only [Int.toNat_natCast]; omega) | (simp; done) | (simp at *; omega))) rfl ?_
          refine hl_v (v_assign rfl) rfl ?_
          refine hl_nil ?_
          refine thenQ_n ?_
          refine ⟨k + 1, (ai_cons (t := 5) rfl (ai_cons (t := 0) rfl (ai_cons (t := 1) rfl ai_nil))), ?_, ?_⟩
          · exact ⟨rfl, by omega, take_ext heq (by omega) (by omega) hc3⟩
          · omega
      · try simp only [decide_eq_true_eq, decide_eq_false_iff_not, Bool.and_eq_true, Bool.and_eq_false_iff, Bool.or_eq_true, Bool.or_eq_false_iff, Bool.not_eq_true', Bool.not_eq_false', Bool.not_eq_true, Bool.not_eq_false, beq_iff_eq, Int.not_lt, Int.not_le] at hc2
        refine hw_exit ?_
        refine thenQ_e ?_
        refine thenQ_e ?_
        refine blockQ_hit ?_
        refine thenQ_n ?_
        refine hw_seq ?_
        refine hw_region ?_
        refine hl_v (v_assign rfl) rfl ?_
        refine hl_nil ?_
        refine thenQ_n ?_
        refine hw_sub _ (ai_cons (t := 4) rfl ai_nil) ?_
        refine hw_ret ?_
        refine ret_i _ (ra_t rfl ra_nil) ?_
        refine ⟨congrArg Value.bool (decide_eq_true ?_).symm, rfl⟩
        rwa [List.take_of_length_le (by omega), List.take_of_length_le (by omega)] at heq

theorem Ints_spec {v0 v1 : Value} {l m : List Int} {S S' : Nat → Prop} {H : Heap} (hs : Sl fInt.rep H S v0 l) (ht : Sl fInt.rep H S' v1 m) : HC Try.prog 34 [v0, v1] H (fun v H' => v = .bool (decide (l = m)) ∧ H' = H) := by
  have hcap := hs.cap
  refine hc_of_hw (N := 26) (rs := [(.tmp 4)]) Try.func34 rfl rfl rfl rfl ?_
  refine hw_seq ?_
  refine hw_region ?_
  refine hl_v (v_assign rfl) rfl ?_
  refine hl_nil ?_
  refine thenQ_n ?_
  refine hw_sub _ (ai_cons (t := 0) rfl (ai_cons (t := 1) rfl ai_nil)) ?_
  refine hw_seq ?_
  refine hw_seq ?_
  refine hw_region ?_
  refine hl_v (v_move rfl) rfl ?_
  refine hl_v (v_lenL rfl Try.underlying51 rfl (by first | assumption | exact Ow.sl0 (by assumption))) rfl ?_
  refine hl_v (v_move rfl) rfl ?_
  refine hl_v (v_lenL rfl Try.underlying51 rfl (by first | assumption | exact Ow.sl0 (by assumption))) rfl ?_
  refine hl_v (v_neq rfl rfl) rfl ?_
  refine hl_nil ?_
  refine thenQ_n ?_
  refine hw_sub _ (ai_cons (t := 0) rfl (ai_cons (t := 1) rfl (ai_cons (t := 10) rfl ai_nil))) ?_
  refine hw_cond rfl (fun hc1 => ?_) (fun hc1 => ?_)
  · try simp only [decide_eq_true_eq, decide_eq_false_iff_not, Bool.and_eq_true, Bool.and_eq_false_iff, Bool.or_eq_true, Bool.or_eq_false_iff, Bool.not_eq_true', Bool.not_eq_false', Bool.not_eq_true, Bool.not_eq_false, beq_iff_eq, Int.not_lt, Int.not_le] at hc1
    refine hw_seq ?_
    refine hw_region ?_
    refine hl_v (v_assign rfl) rfl ?_
    refine hl_nil ?_
    refine thenQ_n ?_
    refine hw_sub _ (ai_cons (t := 4) rfl ai_nil) ?_
    refine hw_ret ?_
    refine thenQ_r ?_
    refine ret_i _ (ra_t rfl ra_nil) ?_
    exact ⟨congrArg Value.bool (decide_eq_false (by rintro rfl; omega)).symm, rfl⟩
  · try simp only [decide_eq_true_eq, decide_eq_false_iff_not, Bool.and_eq_true, Bool.and_eq_false_iff, Bool.or_eq_true, Bool.or_eq_false_iff, Bool.not_eq_true', Bool.not_eq_false', Bool.not_eq_true, Bool.not_eq_false, beq_iff_eq, Int.not_lt, Int.not_le] at hc1
    refine hw_skip ?_
    refine thenQ_n ?_
    refine hw_seq ?_
    refine hw_seq ?_
    refine hw_region ?_
    refine hl_v (v_assign rfl) rfl ?_
    refine hl_nil ?_
    refine thenQ_n ?_
    refine hw_sub _ (ai_cons (t := 0) rfl (ai_cons (t := 1) rfl (ai_cons (t := 5) rfl ai_nil))) ?_
    refine hw_block ?_
    refine hw_loop (α := Nat) [(0, _), (1, _)] (fun k => [(5, .int .i64 (k : Int))]) (fun k G4 => G4 = H ∧ k ≤ l.length ∧ l.take k = m.take k) (fun k => l.length - k) 0 (ai_cons (t := 5) rfl (ai_cons (t := 0) rfl (ai_cons (t := 1) rfl ai_nil))) ?_ ?_
    · exact ⟨rfl, Nat.zero_le _, rfl⟩
    · intro k G4 hI
      obtain ⟨rfl, hk, heq⟩ := hI
      refine hw_seq ?_
      refine hw_seq ?_
      refine hw_region ?_
      refine hl_v (v_move rfl) rfl ?_
      refine hl_v (v_move rfl) rfl ?_
      refine hl_v (v_lenL rfl Try.underlying51 rfl (by first | assumption | exact Ow.sl0 (by assumption))) rfl ?_
      refine hl_v (v_lss rfl rfl) rfl ?_
      refine hl_nil ?_
      refine thenQ_n ?_
      refine hw_sub _ (ai_cons (t := 0) rfl (ai_cons (t := 1) rfl (ai_cons (t := 5) rfl (ai_cons (t := 14) rfl ai_nil)))) ?_
      refine hw_cond rfl (fun hc2 => ?_) (fun hc2 => ?_)
      · try simp only [decide_eq_true_eq, decide_eq_false_iff_not, Bool.and_eq_true, Bool.and_eq_false_iff, Bool.or_eq_true, Bool.or_eq_false_iff, Bool.not_eq_true', Bool.not_eq_false', Bool.not_eq_true, Bool.not_eq_false, beq_iff_eq, Int.not_lt, Int.not_le] at hc2
        refine hw_skip ?_
        refine thenQ_n ?_
        refine hw_seq ?_
        refine hw_block ?_
        refine hw_seq ?_
        refine hw_quiet Try.mixed (by kernel_rfl) ?_
        refine hq_v (v_move rfl) rfl ?_
        refine hq_v (v_move rfl) rfl ?_
        refine hq_v (v_ixL Try.underlying51 Try.sizeOf3 rfl rfl (by first | assumption | exact Ow.sl0 (by assumption)) (by first | omega | assumption | (simp only [Int.toNat_natCast]; omega) | (simp; done) | (simp at *; omega))) rfl ?_
        refine hq_v (v_loadSc Try.isAgg3 rfl (by first | assumption | exact Ow.sl0 (by assumption)) rfl (by first | omega | assumption | (simp only [Int.toNat_natCast]; omega) | (simp; done) | (simp at *; omega)) rfl) rfl ?_
        refine hq_v (v_move rfl) rfl ?_
        refine hq_v (v_move rfl) rfl ?_
        refine hq_v (v_ixL Try.underlying51 Try.sizeOf3 rfl rfl (by first | assumption | exact Ow.sl0 (by assumption)) (by first | omega | assumption | (simp only [Int.toNat_natCast]; omega) | (simp; done) | (simp at *; omega))) rfl ?_
        refine hq_v (v_loadSc Try.isAgg3 rfl (by first | assumption | exact Ow.sl0 (by assumption)) rfl (by first | omega | assumption | (simp only [Int.toNat_natCast]; omega) | (simp; done) | (simp at *; omega)) rfl) rfl ?_
        refine hq_v (v_neq rfl rfl) rfl ?_
        refine hq_nil ?_
        refine thenQ_n ?_
        refine hw_sub _ (ai_cons (t := 0) rfl (ai_cons (t := 1) rfl (ai_cons (t := 5) rfl (ai_cons (t := 25) rfl ai_nil)))) ?_
        refine hw_cond rfl (fun hc3 => ?_) (fun hc3 => ?_)
        · try simp only [decide_eq_true_eq, decide_eq_false_iff_not, Bool.and_eq_true, Bool.and_eq_false_iff, Bool.or_eq_true, Bool.or_eq_false_iff, Bool.not_eq_true', Bool.not_eq_false', Bool.not_eq_true, Bool.not_eq_false, beq_iff_eq, Int.not_lt, Int.not_le] at hc3
          refine hw_seq ?_
          refine hw_region ?_
          refine hl_v (v_assign rfl) rfl ?_
          refine hl_nil ?_
          refine thenQ_n ?_
          refine hw_sub _ (ai_cons (t := 4) rfl ai_nil) ?_
          refine hw_ret ?_
          refine blockQ_r ?_
          refine thenQ_r ?_
          refine thenQ_r ?_
          refine blockQ_r ?_
          refine thenQ_r ?_
          refine ret_i _ (ra_t rfl ra_nil) ?_
          exact ⟨congrArg Value.bool (decide_eq_false (by rintro rfl; exact hc3 rfl)).symm, rfl⟩
        · try simp only [decide_eq_true_eq, decide_eq_false_iff_not, Bool.and_eq_true, Bool.and_eq_false_iff, Bool.or_eq_true, Bool.or_eq_false_iff, Bool.not_eq_true', Bool.not_eq_false', Bool.not_eq_true, Bool.not_eq_false, beq_iff_eq, Int.not_lt, Int.not_le] at hc3
          refine hw_skip ?_
          refine blockQ_n ?_
          refine thenQ_n ?_
          refine hw_region ?_
          refine hl_v (v_move rfl) rfl ?_
          refine hl_v (v_add rfl rfl (by first | omega | assumption | (simp only [Int.toNat_natCast]; omega) | (simp; done) | (simp at *; omega))) rfl ?_
          refine hl_v (v_assign rfl) rfl ?_
          refine hl_nil ?_
          refine thenQ_n ?_
          refine ⟨k + 1, (ai_cons (t := 5) rfl (ai_cons (t := 0) rfl (ai_cons (t := 1) rfl ai_nil))), ?_, ?_⟩
          · exact ⟨rfl, by omega, take_ext heq (by omega) (by omega) hc3⟩
          · omega
      · try simp only [decide_eq_true_eq, decide_eq_false_iff_not, Bool.and_eq_true, Bool.and_eq_false_iff, Bool.or_eq_true, Bool.or_eq_false_iff, Bool.not_eq_true', Bool.not_eq_false', Bool.not_eq_true, Bool.not_eq_false, beq_iff_eq, Int.not_lt, Int.not_le] at hc2
        refine hw_exit ?_
        refine thenQ_e ?_
        refine thenQ_e ?_
        refine blockQ_hit ?_
        refine thenQ_n ?_
        refine hw_seq ?_
        refine hw_region ?_
        refine hl_v (v_assign rfl) rfl ?_
        refine hl_nil ?_
        refine thenQ_n ?_
        refine hw_sub _ (ai_cons (t := 4) rfl ai_nil) ?_
        refine hw_ret ?_
        refine ret_i _ (ra_t rfl ra_nil) ?_
        refine ⟨congrArg Value.bool (decide_eq_true ?_).symm, rfl⟩
        rwa [List.take_of_length_le (by omega), List.take_of_length_le (by omega)] at heq

theorem alike_spec {v0 : Value} {l : List BSet} {S : Nat → Prop} {H : Heap} (hs : Sl fSet.rep H S v0 l) (hS : ∀ b, S b → b < H.size) {a b : Nat} (ha : a < 256) (hb : b < 256) : HC Try.prog 65 [v0, .int .i64 a, .int .i64 b] H (fun v H' => v = .bool (alike l a b) ∧ Ext [] H H') := by
  have hx0 : Ext [] H H := Ext.refl _
  have hcap := hs.cap
  refine hc_of_hw (N := 27) (rs := [(.tmp 6)]) Try.func65 rfl rfl rfl rfl ?_
  refine hw_seq ?_
  refine hw_region ?_
  refine hl_v (v_assign rfl) rfl ?_
  refine hl_nil ?_
  refine thenQ_n ?_
  refine hw_sub _ (ai_cons (t := 0) rfl (ai_cons (t := 1) rfl (ai_cons (t := 2) rfl ai_nil))) ?_
  refine hw_seq ?_
  refine hw_seq ?_
  refine hw_region ?_
  refine hl_v (v_assign rfl) rfl ?_
  refine hl_nil ?_
  refine thenQ_n ?_
  refine hw_sub _ (ai_cons (t := 0) rfl (ai_cons (t := 1) rfl (ai_cons (t := 2) rfl (ai_cons (t := 7) rfl ai_nil)))) ?_
  refine hw_block ?_
  refine hw_loop (α := Nat) [(0, _), (1, _), (2, _)] (fun k => [(7, .int .i64 (k : Int))]) (fun k G2 => Ext [] H G2 ∧ Sl fSet.rep G2 S v0 l ∧ k ≤ l.length ∧ alike (l.take k) a b = true) (fun k => l.length - k) 0 (ai_cons (t := 7) rfl (ai_cons (t := 0) rfl (ai_cons (t := 1) rfl (ai_cons (t := 2) rfl ai_nil)))) ?_ ?_
  · exact ⟨hx0, hs, ⟨Nat.zero_le _, rfl⟩⟩
  · intro k G2 hI
    obtain ⟨hx0, hs, ⟨hk, hal⟩⟩ := hI
    have hx0z := hx0.size
    refine hw_seq ?_
    refine hw_seq ?_
    refine hw_region ?_
    refine hl_v (v_move rfl) rfl ?_
    refine hl_v (v_move rfl) rfl ?_
    refine hl_v (v_lenL rfl Try.underlying48 rfl (by first | assumption | exact Ow.sl0 (by assumption))) rfl ?_
    refine hl_v (v_lss rfl rfl) rfl ?_
    refine hl_nil ?_
    refine thenQ_n ?_
    refine hw_sub _ (ai_cons (t := 0) rfl (ai_cons (t := 1) rfl (ai_cons (t := 2) rfl (ai_cons (t := 7) rfl (ai_cons (t := 11) rfl ai_nil))))) ?_
    refine hw_cond rfl (fun hc1 => ?_) (fun hc1 => ?_)
    · try simp only [decide_eq_true_eq, decide_eq_false_iff_not, Bool.and_eq_true, Bool.and_eq_false_iff, Bool.or_eq_true, Bool.or_eq_false_iff, Bool.not_eq_true', Bool.not_eq_false', Bool.not_eq_true, Bool.not_eq_false, beq_iff_eq, Int.not_lt, Int.not_le] at hc1
      refine hw_skip ?_
      refine thenQ_n ?_
      refine hw_seq ?_
      refine hw_block ?_
      refine hw_seq ?_
      refine hw_held (fun H' => Ext [] G2 H') (.step 0 false (.step 1 false (.step 2 false (.step 3 false (.step 4 false (.step 6 false (.step 7 false (.step 8 false (.step 9 false (.step 10 false (.step 5 true (.step 11 true (.step 12 false .done))))))))))))) Try.mixed (by kernel_rfl) ?_ ?_
      · exact Ext.refl _
      have xr2 : Ext [] G2 G2 := Ext.refl _
      have hsR := hs
      refine hd_v rfl (fun H' hS => (v_move rfl)) rfl ?_
      refine hd_v rfl (fun H' hS => (v_move rfl)) rfl ?_
      refine hd_v rfl (fun H' hS => (v_ixL Try.underlying48 Try.sizeOf31 rfl rfl (by first | assumption | exact Ow.sl0 (by assumption) | exact Sl.ext0 (by assumption) hS | exact Sl.ext0 (Ow.sl0 (by assumption)) hS) (by first | omega | assumption | (simp only [Int.toNat_natCast]; omega) | (simp; done) | (simp at *; omega)))) rfl ?_
      refine hd_v rfl (fun H' hS => (v_loadFl Try.isAgg31 Try.sizeOf31 rfl (by first | assumption | exact Ow.sl0 (by assumption) | exact Sl.ext0 (by assumption) hS | exact Sl.ext0 (Ow.sl0 (by assumption)) hS) rfl (by first | omega | assumption | (simp only [Int.toNat_natCast]; omega) | (simp; done) | (simp at *; omega)))) rfl ?_
      refine hd_v rfl (fun H' hS => (v_move rfl)) rfl ?_
      refine hd_v rfl (fun H' hS => (v_move rfl)) rfl ?_
      refine hd_v rfl (fun H' hS => (v_move rfl)) rfl ?_
      refine hd_v rfl (fun H' hS => (v_ixL Try.underlying48 Try.sizeOf31 rfl rfl (by first | assumption | exact Ow.sl0 (by assumption) | exact Sl.ext0 (by assumption) hS | exact Sl.ext0 (Ow.sl0 (by assumption)) hS) (by first | omega | assumption | (simp only [Int.toNat_natCast]; omega) | (simp; done) | (simp at *; omega)))) rfl ?_
      refine hd_v rfl (fun H' hS => (v_loadFl Try.isAgg31 Try.sizeOf31 rfl (by first | assumption | exact Ow.sl0 (by assumption) | exact Sl.ext0 (by assumption) hS | exact Sl.ext0 (Ow.sl0 (by assumption)) hS) rfl (by first | omega | assumption | (simp only [Int.toNat_natCast]; omega) | (simp; done) | (simp at *; omega)))) rfl ?_
      refine hd_v rfl (fun H' hS => (v_move rfl)) rfl ?_
      refine hd_h (h_call Try.call23 (evs_cons rfl (evs_cons rfl evs_nil)) (rHas_spec (by first | omega | assumption | (simp only [Int.toNat_natCast]; omega) | (simp; done) | (simp at *; omega)))) (fun _ _ hR => Ext.trans xr2 (hR.2)) rfl ?_
      rintro _ H3 ⟨rfl, n4⟩
      have n4s := n4.size
      replace hx0 := Ext.trans hx0 n4
      replace hs := Sl.ext0 hs n4
      replace xr2 := Ext.trans xr2 n4
      refine hd_h (h_call Try.call23 (evs_cons rfl (evs_cons rfl evs_nil)) (rHas_spec (by first | omega | assumption | (simp only [Int.toNat_natCast]; omega) | (simp; done) | (simp at *; omega)))) (fun _ _ hR => Ext.trans xr2 (hR.2)) rfl ?_
      rintro _ H5 ⟨rfl, n6⟩
      have n6s := n6.size
      replace hx0 := Ext.trans hx0 n6
      replace hs := Sl.ext0 hs n6
      replace xr2 := Ext.trans xr2 n6
      refine hd_v rfl (fun H' hS => (v_neqb Try.underlying4 rfl rfl)) rfl ?_
      refine hd_nil ?_
      refine thenQ_n ?_
      refine hw_sub _ (ai_cons (t := 0) rfl (ai_cons (t := 1) rfl (ai_cons (t := 2) rfl (ai_cons (t := 7) rfl (ai_cons (t := 26) rfl ai_nil))))) ?_
      refine hw_cond rfl (fun hc7 => ?_) (fun hc7 => ?_)
      · try simp only [decide_eq_true_eq, decide_eq_false_iff_not, Bool.and_eq_true, Bool.and_eq_false_iff, Bool.or_eq_true, Bool.or_eq_false_iff, Bool.not_eq_true', Bool.not_eq_false', Bool.not_eq_true, Bool.not_eq_false, beq_iff_eq, Int.not_lt, Int.not_le] at hc7
        refine hw_seq ?_
        refine hw_region ?_
        refine hl_v (v_assign rfl) rfl ?_
        refine hl_nil ?_
        refine thenQ_n ?_
        refine hw_sub _ (ai_cons (t := 6) rfl ai_nil) ?_
        refine hw_ret ?_
        refine blockQ_r ?_
        refine thenQ_r ?_
        refine thenQ_r ?_
        refine blockQ_r ?_
        refine thenQ_r ?_
        refine ret_i _ (ra_t rfl ra_nil) ?_
        exact ⟨congrArg Value.bool (alike_bad (by omega) hc7).symm, hx0⟩
      · try simp only [decide_eq_true_eq, decide_eq_false_iff_not, Bool.and_eq_true, Bool.and_eq_false_iff, Bool.or_eq_true, Bool.or_eq_false_iff, Bool.not_eq_true', Bool.not_eq_false', Bool.not_eq_true, Bool.not_eq_false, beq_iff_eq, Int.not_lt, Int.not_le] at hc7
        refine hw_skip ?_
        refine blockQ_n ?_
        refine thenQ_n ?_
        refine hw_region ?_
        refine hl_v (v_move rfl) rfl ?_
        refine hl_v (v_add rfl rfl (by first | omega | assumption | (simp only [Int.toNat_natCast]; omega) | (simp; done) | (simp at *; omega))) rfl ?_
        refine hl_v (v_assign rfl) rfl ?_
        refine hl_nil ?_
        refine thenQ_n ?_
        refine ⟨k + 1, (ai_cons (t := 7) rfl (ai_cons (t := 0) rfl (ai_cons (t := 1) rfl (ai_cons (t := 2) rfl ai_nil)))), ?_, ?_⟩
        · skip
          exact ⟨hx0, hs, ⟨by omega, alike_take (by omega) hal hc7⟩⟩
        · omega
    · try simp only [decide_eq_true_eq, decide_eq_false_iff_not, Bool.and_eq_true, Bool.and_eq_false_iff, Bool.or_eq_true, Bool.or_eq_false_iff, Bool.not_eq_true', Bool.not_eq_false', Bool.not_eq_true, Bool.not_eq_false, beq_iff_eq, Int.not_lt, Int.not_le] at hc1
      refine hw_exit ?_
      refine thenQ_e ?_
      refine thenQ_e ?_
      refine blockQ_hit ?_
      refine thenQ_n ?_
      refine hw_seq ?_
      refine hw_region ?_
      refine hl_v (v_assign rfl) rfl ?_
      refine hl_nil ?_
      refine thenQ_n ?_
      refine hw_sub _ (ai_cons (t := 6) rfl ai_nil) ?_
      refine hw_ret ?_
      refine ret_i _ (ra_t rfl ra_nil) ?_
      rw [List.take_of_length_le (by omega)] at hal
      exact ⟨congrArg Value.bool hal.symm, hx0⟩

theorem classes_spec {v0 : Value} {l : List BSet} {S : Nat → Prop} {H : Heap} (hs : Sl fSet.rep H S v0 l) (hS : ∀ b, S b → b < H.size) : HC Try.prog 56 [v0] H (fun v H' => Ow fInt H' H.size 3 v (cls l) ∧ Ext [] H H') := by
  have hx0 : Ext [] H H := Ext.refl _
  have hcap := hs.cap
  refine hc_of_hw (N := 43) (rs := [(.tmp 2)]) Try.func56 rfl rfl rfl rfl ?_
  refine hw_seq ?_
  refine hw_region ?_
  refine hl_v (v_assign rfl) rfl ?_
  refine hl_nil ?_
  refine thenQ_n ?_
  refine hw_sub _ (ai_cons (t := 0) rfl ai_nil) ?_
  refine hw_seq ?_
  refine hw_region ?_
  refine hl_h (h_makeSlice (g := fNat) (d := default) (B := H.size) Try.underlying51 Try.type3 rfl rfl rfl (by decide) rfl rfl (by first | omega | assumption | (simp only [Int.toNat_natCast]; omega) | (simp; done) | (simp at *; omega)) (by first | omega | assumption | (simp only [Int.toNat_natCast]; omega) | (simp; done) | (simp at *; omega)) (by rw [show Try.t3.bytes = 8 from rfl]; (first | omega | assumption | (simp only [Int.toNat_natCast]; omega) | (simp; done) | (simp at *; omega))) (by first | omega | assumption | (simp only [Int.toNat_natCast]; omega) | (simp; done) | (simp at *; omega))) rfl ?_
  rintro _ H1 ⟨rfl, n2o, n2x, n2s⟩
  replace hx0 := Ext.trans hx0 n2x
  replace hs := Sl.ext0 hs n2x
  refine hl_v (v_assign rfl) rfl ?_
  refine hl_nil ?_
  refine thenQ_n ?_
  refine hw_sub _ (ai_cons (t := 0) rfl (ai_cons (t := 3) rfl ai_nil)) ?_
  refine hw_seq ?_
  refine hw_region ?_
  refine hl_v (v_assign rfl) rfl ?_
  refine hl_nil ?_
  refine thenQ_n ?_
  refine hw_sub _ (ai_cons (t := 0) rfl (ai_cons (t := 3) rfl (ai_cons (t := 4) rfl ai_nil))) ?_
  refine hw_seq ?_
  refine hw_seq ?_
  refine hw_region ?_
  refine hl_v (v_assign rfl) rfl ?_
  refine hl_nil ?_
  refine thenQ_n ?_
  refine hw_sub _ (ai_cons (t := 0) rfl (ai_cons (t := 3) rfl (ai_cons (t := 4) rfl (ai_cons (t := 5) rfl ai_nil)))) ?_
  refine hw_block ?_
  refine hw_loop (α := Nat × Value) [(0, _), (3, _)] (fun x => [(4, x.2), (5, .int .i64 (x.1 : Int))]) (fun x G4 => Ext [] H G4 ∧ Sl fSet.rep G4 S v0 l ∧ Ow fNat G4 H.size 3 (.slice (some ⟨H.size, 0, none⟩) (256 : Int).toNat (256 : Int).toNat) (clsTo l x.1) ∧ Ow fNat G4 H1.size 3 x.2 (firsts l x.1) ∧ H1.size ≤ G4.size ∧ x.1 ≤ 256) (fun x => 256 - x.1) (0, .slice none 0 0) (ai_cons (t := 4) rfl (ai_cons (t := 5) rfl (ai_cons (t := 0) rfl (ai_cons (t := 3) rfl ai_nil)))) ?_ ?_
  · exact ⟨hx0, hs, (n2o.congr (clsTo_zero l)), Ow.nil, Nat.le_refl _, Nat.zero_le _⟩
  · intro x G4 hI
    obtain ⟨hx0, hs, n2o, ow, hz, hk⟩ := hI
    have hx0z := hx0.size
    have hfl := firsts_len_le l x.1
    have hcl0 := clsTo_len l x.1
    refine hw_seq ?_
    refine hw_seq ?_
    refine hw_region ?_
    refine hl_v (v_move rfl) rfl ?_
    refine hl_v (v_lss rfl rfl) rfl ?_
    refine hl_nil ?_
    refine thenQ_n ?_
    refine hw_sub _ (ai_cons (t := 0) rfl (ai_cons (t := 3) rfl (ai_cons (t := 4) rfl (ai_cons (t := 5) rfl (ai_cons (t := 10) rfl ai_nil))))) ?_
    refine hw_cond rfl (fun hc3 => ?_) (fun hc3 => ?_)
    · try simp only [decide_eq_true_eq, decide_eq_false_iff_not, Bool.and_eq_true, Bool.and_eq_false_iff, Bool.or_eq_true, Bool.or_eq_false_iff, Bool.not_eq_true', Bool.not_eq_false', Bool.not_eq_true, Bool.not_eq_false, beq_iff_eq, Int.not_lt, Int.not_le] at hc3
      refine hw_skip ?_
      refine thenQ_n ?_
      refine hw_seq ?_
      refine hw_block ?_
      refine hw_seq ?_
      refine hw_region ?_
      refine hl_v (v_move rfl) rfl ?_
      refine hl_v (v_lenL rfl Try.underlying51 rfl (by first | assumption | exact Ow.sl0 (by assumption))) rfl ?_
      refine hl_v (v_assign rfl) rfl ?_
      refine hl_nil ?_
      refine thenQ_n ?_
      refine hw_sub _ (ai_cons (t := 0) rfl (ai_cons (t := 3) rfl (ai_cons (t := 4) rfl (ai_cons (t := 5) rfl (ai_cons (t := 6) rfl ai_nil))))) ?_
      refine hw_seq ?_
      refine hw_seq ?_
      refine hw_region ?_
      refine hl_v (v_move rfl) rfl ?_
      refine hl_v (v_lenL rfl Try.underlying51 rfl (by first | assumption | exact Ow.sl0 (by assumption))) rfl ?_
      refine hl_v (v_sub rfl rfl (by first | omega | assumption | (simp only [Int.toNat_natCast]; omega) | (simp; done) | (simp at *; omega))) rfl ?_
      refine hl_v (v_assign rfl) rfl ?_
      refine hl_nil ?_
      refine thenQ_n ?_
      refine hw_sub _ (ai_cons (t := 0) rfl (ai_cons (t := 3) rfl (ai_cons (t := 4) rfl (ai_cons (t := 5) rfl (ai_cons (t := 6) rfl (ai_cons (t := 7) rfl ai_nil)))))) ?_
      refine hw_block ?_
      refine hw_loop (α := Nat × Nat) [(0, _), (3, _), (4, _), (5, _)] (fun y => [(6, .int .i64 (y.2 : Int)), (7, .int .i64 ((y.1 : Int) - 1))]) (fun y G8 => Ext [] H G8 ∧ Sl fSet.rep G8 S v0 l ∧ Ow fNat G8 H.size 3 (.slice (some ⟨H.size, 0, none⟩) (256 : Int).toNat (256 : Int).toNat) (clsTo l x.1) ∧ Ow fNat G8 H1.size 3 x.2 (firsts l x.1) ∧ H1.size ≤ G8.size ∧ y.1 ≤ (firsts l x.1).length ∧ y.2 = if y.1 ≤ cl l x.1 then cl l x.1 else (firsts l x.1).length) (fun y => y.1) ((firsts l x.1).length, (firsts l x.1).length) (ai_cons (t := 6) rfl (ai_cons (t := 7) rfl (ai_cons (t := 0) rfl (ai_cons (t := 3) rfl (ai_cons (t := 4) rfl (ai_cons (t := 5) rfl ai_nil)))))) ?_ ?_
      · exact ⟨hx0, hs, n2o, ow, (by omega), ⟨Nat.le_refl _, by have := cl_le (l := l) x.1; split <;> omega⟩⟩
      · intro y G8 hI
        obtain ⟨hx0, hs, n2o, ow, hz, ⟨hj, hat⟩⟩ := hI
        have hx0z := hx0.size
        refine hw_seq ?_
        refine hw_seq ?_
        refine hw_region ?_
        refine hl_v (v_move rfl) rfl ?_
        refine hl_v (v_geq rfl rfl) rfl ?_
        refine hl_nil ?_
        refine thenQ_n ?_
        refine hw_sub _ (ai_cons (t := 0) rfl (ai_cons (t := 3) rfl (ai_cons (t := 4) rfl (ai_cons (t := 5) rfl (ai_cons (t := 6) rfl (ai_cons (t := 7) rfl (ai_cons (t := 19) rfl ai_nil))))))) ?_
        refine hw_cond rfl (fun hc4 => ?_) (fun hc4 => ?_)
        · try simp only [decide_eq_true_eq, decide_eq_false_iff_not, Bool.and_eq_true, Bool.and_eq_false_iff, Bool.or_eq_true, Bool.or_eq_false_iff, Bool.not_eq_true', Bool.not_eq_false', Bool.not_eq_true, Bool.not_eq_false, beq_iff_eq, Int.not_lt, Int.not_le] at hc4
          refine hw_skip ?_
          refine thenQ_n ?_
          refine hw_seq ?_
          refine hw_block ?_
          refine hw_seq ?_
          have hcl1 := cl_le (l := l) x.1
          have hfa : (firsts l x.1).getD ((y.1 : Int) - 1).toNat default < 256 := by
            rw [show ((y.1 : Int) - 1).toNat = y.1 - 1 by omega]
            have h1 := (firsts_mem (l := l) (n := x.1) (firsts_getD_mem (k := y.1 - 1) (by omega))).1
            exact Nat.lt_trans h1 (by omega)
          refine hw_region ?_
          refine hl_v (v_move rfl) rfl ?_
          refine hl_v (v_move rfl) rfl ?_
          refine hl_v (v_move rfl) rfl ?_
          refine hl_v (v_ixL Try.underlying51 Try.sizeOf3 rfl rfl (by first | assumption | exact Ow.sl0 (by assumption)) (by first | omega | assumption | (simp only [Int.toNat_natCast]; omega) | (simp; done) | (simp at *; omega))) rfl ?_
          refine hl_v (v_loadSc Try.isAgg3 rfl (by first | assumption | exact Ow.sl0 (by assumption)) rfl (by first | omega | assumption | (simp only [Int.toNat_natCast]; omega) | (simp; done) | (simp at *; omega)) rfl) rfl ?_
          refine hl_v (v_move rfl) rfl ?_
          refine hl_h (h_call Try.call65 (evs_cons rfl (evs_cons rfl (evs_cons rfl evs_nil))) (alike_spec (by first | assumption | exact Ow.sl0 (by assumption)) (by first | assumption | exact fun _ h => h | exact fun b hb => (Ow.lt (by assumption) b hb).2 | (intro b hb; have hSb := hS b hb; omega)) (by first | omega | assumption | (simp only [Int.toNat_natCast]; omega) | (simp; done) | (simp at *; omega)) (by first | omega | assumption | (simp only [Int.toNat_natCast]; omega) | (simp; done) | (simp at *; omega)))) rfl ?_
          rintro _ H5 ⟨rfl, n6⟩
          have n6s := n6.size
          replace hx0 := Ext.trans hx0 n6
          replace hs := Sl.ext0 hs n6
          replace n2o := Ow.ext0 n2o n6
          replace ow := Ow.ext0 ow n6
          refine hl_nil ?_
          refine thenQ_n ?_
          refine hw_sub _ (ai_cons (t := 0) rfl (ai_cons (t := 3) rfl (ai_cons (t := 4) rfl (ai_cons (t := 5) rfl (ai_cons (t := 6) rfl (ai_cons (t := 7) rfl (ai_cons (t := 28) rfl ai_nil))))))) ?_
          refine hw_cond rfl (fun hc7 => ?_) (fun hc7 => ?_)
          · try simp only [decide_eq_true_eq, decide_eq_false_iff_not, Bool.and_eq_true, Bool.and_eq_false_iff, Bool.or_eq_true, Bool.or_eq_false_iff, Bool.not_eq_true', Bool.not_eq_false', Bool.not_eq_true, Bool.not_eq_false, beq_iff_eq, Int.not_lt, Int.not_le] at hc7
            rw [show ((y.1 : Int) - 1).toNat = y.1 - 1 by omega, show (default : Nat) = 0 from rfl, alike_cl (by omega), decide_eq_true_eq] at hc7
            refine hw_region ?_
            refine hl_v (v_move rfl) rfl ?_
            refine hl_v (v_assign rfl) rfl ?_
            refine hl_nil ?_
            refine blockQ_n ?_
            refine thenQ_n ?_
            refine hw_region ?_
            refine hl_v (v_move rfl) rfl ?_
            refine hl_v (v_sub rfl rfl (by first | omega | assumption | (simp only [Int.toNat_natCast]; omega) | (simp; done) | (simp at *; omega))) rfl ?_
            refine hl_v (v_assign rfl) rfl ?_
            refine hl_nil ?_
            refine thenQ_n ?_
            refine ⟨(y.1 - 1, y.1 - 1), (ai_cons (t := 6) (by first | rfl | (show some _ = some _; congr 2; omega)) (ai_cons (t := 7) (by first | rfl | (show some _ = some _; congr 2; omega)) (ai_cons (t := 0) rfl (ai_cons (t := 3) rfl (ai_cons (t := 4) rfl (ai_cons (t := 5) rfl ai_nil)))))), ?_, ?_⟩
            · skip
              exact ⟨hx0, hs, n2o, ow, (by omega), ⟨by omega, by show y.1 - 1 = _; rw [if_pos (by show y.1 - 1 ≤ _; omega)]; omega⟩⟩
            · show y.1 - 1 < y.1; omega
          · try simp only [decide_eq_true_eq, decide_eq_false_iff_not, Bool.and_eq_true, Bool.and_eq_false_iff, Bool.or_eq_true, Bool.or_eq_false_iff, Bool.not_eq_true', Bool.not_eq_false', Bool.not_eq_true, Bool.not_eq_false, beq_iff_eq, Int.not_lt, Int.not_le] at hc7
            rw [show ((y.1 : Int) - 1).toNat = y.1 - 1 by omega, show (default : Nat) = 0 from rfl, alike_cl (by omega), decide_eq_false_iff_not] at hc7
            refine hw_skip ?_
            refine blockQ_n ?_
            refine thenQ_n ?_
            refine hw_region ?_
            refine hl_v (v_move rfl) rfl ?_
            refine hl_v (v_sub rfl rfl (by first | omega | assumption | (simp only [Int.toNat_natCast]; omega) | (simp; done) | (simp at *; omega))) rfl ?_
            refine hl_v (v_assign rfl) rfl ?_
            refine hl_nil ?_
            refine thenQ_n ?_
            refine ⟨(y.1 - 1, y.2), (ai_cons (t := 6) (by first | rfl | (show some _ = some _; congr 2; omega)) (ai_cons (t := 7) (by first | rfl | (show some _ = some _; congr 2; omega)) (ai_cons (t := 0) rfl (ai_cons (t := 3) rfl (ai_cons (t := 4) rfl (ai_cons (t := 5) rfl ai_nil)))))), ?_, ?_⟩
            · skip
              exact ⟨hx0, hs, n2o, ow, (by omega), ⟨by show y.1 - 1 ≤ _; omega, by show y.2 = if y.1 - 1 ≤ _ then _ else _; rw [hat]; split <;> split <;> omega⟩⟩
            · show y.1 - 1 < y.1; omega
        · try simp only [decide_eq_true_eq, decide_eq_false_iff_not, Bool.and_eq_true, Bool.and_eq_false_iff, Bool.or_eq_true, Bool.or_eq_false_iff, Bool.not_eq_true', Bool.not_eq_false', Bool.not_eq_true, Bool.not_eq_false, beq_iff_eq, Int.not_lt, Int.not_le] at hc4
          refine hw_exit ?_
          refine thenQ_e ?_
          refine thenQ_e ?_
          refine blockQ_hit ?_
          refine thenQ_n ?_
          refine hw_seq ?_
          refine hw_seq ?_
          have hy0 : y.1 = 0 := by omega
          have hcl : y.2 = cl l x.1 := by rw [hat, if_pos (by omega)]
          refine hw_region ?_
          refine hl_v (v_move rfl) rfl ?_
          refine hl_v (v_move rfl) rfl ?_
          refine hl_v (v_lenL rfl Try.underlying51 rfl (by first | assumption | exact Ow.sl0 (by assumption))) rfl ?_
          refine hl_v (v_eql rfl rfl) rfl ?_
          refine hl_nil ?_
          refine thenQ_n ?_
          refine hw_sub _ (ai_cons (t := 0) rfl (ai_cons (t := 3) rfl (ai_cons (t := 4) rfl (ai_cons (t := 5) rfl (ai_cons (t := 6) rfl (ai_cons (t := 33) rfl ai_nil)))))) ?_
          refine hw_cond rfl (fun hc8 => ?_) (fun hc8 => ?_)
          · try simp only [decide_eq_true_eq, decide_eq_false_iff_not, Bool.and_eq_true, Bool.and_eq_false_iff, Bool.or_eq_true, Bool.or_eq_false_iff, Bool.not_eq_true', Bool.not_eq_false', Bool.not_eq_true, Bool.not_eq_false, beq_iff_eq, Int.not_lt, Int.not_le] at hc8
            refine hw_region ?_
            refine hl_v (v_move rfl) rfl ?_
            refine hl_v (v_move rfl) rfl ?_
            refine hl_h (h_buildSlice (xs := [.tmp 35]) Try.underlying51 Try.sizeOf3 Try.zeroValue3 rfl (evs_cons rfl evs_nil) rfl (by decide) (by decide) (by intro v hv; simp only [List.mem_cons, List.not_mem_nil, or_false] at hv; rcases hv with rfl <;> rfl)) rfl ?_
            rintro _ H9 ⟨rfl, n10⟩
            have n10s := n10.size
            replace hx0 := Ext.trans hx0 n10.ext
            replace hs := Sl.ext0 hs n10.ext
            replace n2o := Ow.ext0 n2o n10.ext
            replace ow := Ow.ext0 ow n10.ext
            have n10o := Ow.new (g := fNat) (l := [_]) (B := G8.size) n10 rfl (by omega) (by simp)
            refine hl_h (h_append (g := fNat) (B := _) rfl Try.underlying51 Try.type3 rfl rfl rfl rfl (by decide) rfl rfl ow (by first | assumption | exact Ow.sl0 (by assumption)) (by first | (rw [show Try.t3.bytes = 8 from rfl]; simp only [List.length_append, List.length_cons, List.length_nil]; omega) | (rw [show Try.t3.bytes = 8 from rfl]; omega) | omega | (simp only [List.length_append, List.length_cons, List.length_nil]; omega) | assumption | (simp; done)) (by first | (rw [show Try.t3.bytes = 8 from rfl]; simp only [List.length_append, List.length_cons, List.length_nil]; omega) | (rw [show Try.t3.bytes = 8 from rfl]; omega) | omega | (simp only [List.length_append, List.length_cons, List.length_nil]; omega) | assumption | (simp; done)) (by first | (rw [show Try.t3.bytes = 8 from rfl]; simp only [List.length_append, List.length_cons, List.length_nil]; omega) | (rw [show Try.t3.bytes = 8 from rfl]; omega) | omega | (simp only [List.length_append, List.length_cons, List.length_nil]; omega) | assumption | (simp; done))) rfl ?_
            rintro v13 H11 ⟨a12o, a12x, a12n, a12b⟩
            have a12s := a12x.size
            replace hx0 := Ext.fresh hx0 a12x (by intro b hb; exact Or.inl (Nat.le_trans (by omega) (Ow.lt ow b hb).1))
            replace hs := Sl.ext hs a12x (by intro b hb; (try have hSb := hS b hb); intro hm; have hlt := Ow.lt ow _ hm; (try simp only [mb, List.mem_singleton] at hb); (try simp only [mb, List.mem_singleton] at hm); omega)
            replace n2o := Ow.ext n2o a12x (by intro b hb; have hlb := Ow.lt n2o b hb; intro hm; have hlt := Ow.lt ow _ hm; (try simp only [mb, List.mem_singleton] at hb); (try simp only [mb, List.mem_singleton] at hm); omega)
            refine hl_v (v_assign rfl) rfl ?_
            refine hl_nil ?_
            refine thenQ_n ?_
            refine hw_sub _ (ai_cons (t := 0) rfl (ai_cons (t := 3) rfl (ai_cons (t := 4) rfl (ai_cons (t := 5) rfl (ai_cons (t := 6) rfl ai_nil))))) ?_
            refine hw_region ?_
            refine hl_v (v_move rfl) rfl ?_
            refine hl_v (v_move rfl) rfl ?_
            refine hl_v (v_move rfl) rfl ?_
            refine hl_v (v_ixL Try.underlying51 Try.sizeOf3 rfl rfl (by first | assumption | exact Ow.sl0 (by assumption)) (by first | omega | assumption | (simp only [Int.toNat_natCast]; omega) | (simp; done) | (simp at *; omega))) rfl ?_
            refine hl_s (h_storeOw1 Try.sizeOf3 rfl rfl rfl rfl n2o (by first | omega | assumption | (simp only [Int.toNat_natCast]; omega) | (simp; done) | (simp at *; omega)) rfl rfl) ?_
            rintro _ H14 p15
            have p15s := p15.size
            replace hx0 := Ext.fresh hx0 p15.ext (by intro b hb; exact Or.inl (Nat.le_trans (by omega) (Ow.lt n2o b hb).1))
            replace hs := Sl.ext hs p15.ext (by intro b hb; (try have hSb := hS b hb); intro hm; have hlt := Ow.lt n2o _ hm; (try simp only [mb, List.mem_singleton] at hb); (try simp only [mb, List.mem_singleton] at hm); omega)
            replace a12o := Ow.ext a12o p15.ext (by intro b hb; have hlb := Ow.lt a12o b hb; intro hm; have hlt := Ow.lt n2o _ hm; (try simp only [mb, List.mem_singleton] at hb); (try simp only [mb, List.mem_singleton] at hm); omega)
            replace n2o := p15.ow
            refine hl_nil ?_
            refine blockQ_n ?_
            refine thenQ_n ?_
            refine hw_region ?_
            refine hl_v (v_move rfl) rfl ?_
            refine hl_v (v_add rfl rfl (by first | omega | assumption | (simp only [Int.toNat_natCast]; omega) | (simp; done) | (simp at *; omega))) rfl ?_
            refine hl_v (v_assign rfl) rfl ?_
            refine hl_nil ?_
            refine thenQ_n ?_
            refine ⟨(x.1 + 1, _), (ai_cons (t := 4) rfl (ai_cons (t := 5) rfl (ai_cons (t := 0) rfl (ai_cons (t := 3) rfl ai_nil)))), ?_, ?_⟩
            · skip
              exact ⟨hx0, hs, (n2o.congr (clsTo_set hcl)), (a12o.congr (by rw [firsts_succ, if_pos (cl_eq_len.1 (by omega))])), (by omega), by omega⟩
            · omega
          · try simp only [decide_eq_true_eq, decide_eq_false_iff_not, Bool.and_eq_true, Bool.and_eq_false_iff, Bool.or_eq_true, Bool.or_eq_false_iff, Bool.not_eq_true', Bool.not_eq_false', Bool.not_eq_true, Bool.not_eq_false, beq_iff_eq, Int.not_lt, Int.not_le] at hc8
            refine hw_skip ?_
            refine thenQ_n ?_
            refine hw_region ?_
            refine hl_v (v_move rfl) rfl ?_
            refine hl_v (v_move rfl) rfl ?_
            refine hl_v (v_move rfl) rfl ?_
            refine hl_v (v_ixL Try.underlying51 Try.sizeOf3 rfl rfl (by first | assumption | exact Ow.sl0 (by assumption)) (by first | omega | assumption | (simp only [Int.toNat_natCast]; omega) | (simp; done) | (simp at *; omega))) rfl ?_
            refine hl_s (h_storeOw1 Try.sizeOf3 rfl rfl rfl rfl n2o (by first | omega | assumption | (simp only [Int.toNat_natCast]; omega) | (simp; done) | (simp at *; omega)) rfl rfl) ?_
            rintro _ H16 p17
            have p17s := p17.size
            replace hx0 := Ext.fresh hx0 p17.ext (by intro b hb; exact Or.inl (Nat.le_trans (by omega) (Ow.lt n2o b hb).1))
            replace hs := Sl.ext hs p17.ext (by intro b hb; (try have hSb := hS b hb); intro hm; have hlt := Ow.lt n2o _ hm; (try simp only [mb, List.mem_singleton] at hb); (try simp only [mb, List.mem_singleton] at hm); omega)
            replace ow := Ow.ext ow p17.ext (by intro b hb; have hlb := Ow.lt ow b hb; intro hm; have hlt := Ow.lt n2o _ hm; (try simp only [mb, List.mem_singleton] at hb); (try simp only [mb, List.mem_singleton] at hm); omega)
            replace n2o := p17.ow
            refine hl_nil ?_
            refine blockQ_n ?_
            refine thenQ_n ?_
            refine hw_region ?_
            refine hl_v (v_move rfl) rfl ?_
            refine hl_v (v_add rfl rfl (by first | omega | assumption | (simp only [Int.toNat_natCast]; omega) | (simp; done) | (simp at *; omega))) rfl ?_
            refine hl_v (v_assign rfl) rfl ?_
            refine hl_nil ?_
            refine thenQ_n ?_
            refine ⟨(x.1 + 1, _), (ai_cons (t := 4) rfl (ai_cons (t := 5) rfl (ai_cons (t := 0) rfl (ai_cons (t := 3) rfl ai_nil)))), ?_, ?_⟩
            · skip
              exact ⟨hx0, hs, (n2o.congr (clsTo_set hcl)), (ow.congr (by rw [firsts_succ, if_neg (fun h => by have := cl_first h; omega)])), (by omega), by omega⟩
            · omega
    · try simp only [decide_eq_true_eq, decide_eq_false_iff_not, Bool.and_eq_true, Bool.and_eq_false_iff, Bool.or_eq_true, Bool.or_eq_false_iff, Bool.not_eq_true', Bool.not_eq_false', Bool.not_eq_true, Bool.not_eq_false, beq_iff_eq, Int.not_lt, Int.not_le] at hc3
      refine hw_exit ?_
      refine thenQ_e ?_
      refine thenQ_e ?_
      refine blockQ_hit ?_
      refine thenQ_n ?_
      refine hw_seq ?_
      refine hw_region ?_
      refine hl_v (v_move rfl) rfl ?_
      refine hl_v (v_assign rfl) rfl ?_
      refine hl_nil ?_
      refine thenQ_n ?_
      refine hw_sub _ (ai_cons (t := 2) rfl ai_nil) ?_
      refine hw_ret ?_
      refine ret_i _ (ra_t rfl ra_nil) ?_
      have hk6 : x.1 = 256 := by omega
      have h1 := n2o.toInt
      rw [hk6, cls_eq] at h1
      exact ⟨h1, hx0⟩

theorem Right_spec {v0 : Value} {l : List BSet} {S : Nat → Prop} {H : Heap} (hs : Sl fSet.rep H S v0 l) (hS : ∀ b, S b → b < H.size) : HC Try.prog 57 [v0] H (fun v H' => v = .bool (rightB l) ∧ Ext [] H H') := by
  have hx0 : Ext [] H H := Ext.refl _
  have hcap := hs.cap
  refine hc_of_hw (N := 39) (rs := [(.tmp 2)]) Try.func57 rfl rfl rfl rfl ?_
  refine hw_seq ?_
  refine hw_region ?_
  refine hl_v (v_assign rfl) rfl ?_
  refine hl_nil ?_
  refine thenQ_n ?_
  refine hw_sub _ (ai_cons (t := 0) rfl ai_nil) ?_
  refine hw_seq ?_
  refine hw_region ?_
  refine hl_v (v_assign rfl) rfl ?_
  refine hl_nil ?_
  refine thenQ_n ?_
  refine hw_sub _ (ai_cons (t := 0) rfl (ai_cons (t := 3) rfl ai_nil)) ?_
  refine hw_seq ?_
  refine hw_seq ?_
  refine hw_region ?_
  refine hl_v (v_assign rfl) rfl ?_
  refine hl_nil ?_
  refine thenQ_n ?_
  refine hw_sub _ (ai_cons (t := 0) rfl (ai_cons (t := 3) rfl (ai_cons (t := 4) rfl ai_nil))) ?_
  refine hw_block ?_
  refine hw_loop (α := Nat × Nat) [(0, _)] (fun x => [(3, .int .i64 (x.2 : Int)), (4, .int .i64 (x.1 : Int))]) (fun x G3 => Ext [] H G3 ∧ Sl fSet.rep G3 S v0 l ∧ x.1 ≤ 256 ∧ rightK l x.1 = some x.2) (fun x => 256 - x.1) (0, 0) (ai_cons (t := 3) rfl (ai_cons (t := 4) rfl (ai_cons (t := 0) rfl ai_nil))) ?_ ?_
  · exact ⟨hx0, hs, ⟨Nat.zero_le _, rfl⟩⟩
  · intro x G3 hI
    obtain ⟨hx0, hs, ⟨hk, hr⟩⟩ := hI
    have hx0z := hx0.size
    refine hw_seq ?_
    refine hw_seq ?_
    refine hw_region ?_
    refine hl_v (v_move rfl) rfl ?_
    refine hl_v (v_lss rfl rfl) rfl ?_
    refine hl_nil ?_
    refine thenQ_n ?_
    refine hw_sub _ (ai_cons (t := 0) rfl (ai_cons (t := 3) rfl (ai_cons (t := 4) rfl (ai_cons (t := 8) rfl ai_nil)))) ?_
    refine hw_cond rfl (fun hc1 => ?_) (fun hc1 => ?_)
    · try simp only [decide_eq_true_eq, decide_eq_false_iff_not, Bool.and_eq_true, Bool.and_eq_false_iff, Bool.or_eq_true, Bool.or_eq_false_iff, Bool.not_eq_true', Bool.not_eq_false', Bool.not_eq_true, Bool.not_eq_false, beq_iff_eq, Int.not_lt, Int.not_le] at hc1
      refine hw_skip ?_
      refine thenQ_n ?_
      refine hw_seq ?_
      refine hw_block ?_
      refine hw_seq ?_
      refine hw_region ?_
      refine hl_v (v_assign rfl) rfl ?_
      refine hl_nil ?_
      refine thenQ_n ?_
      refine hw_sub _ (ai_cons (t := 0) rfl (ai_cons (t := 3) rfl (ai_cons (t := 4) rfl (ai_cons (t := 5) rfl ai_nil)))) ?_
      refine hw_seq ?_
      refine hw_seq ?_
      refine hw_region ?_
      refine hl_v (v_assign rfl) rfl ?_
      refine hl_nil ?_
      refine thenQ_n ?_
      refine hw_sub _ (ai_cons (t := 0) rfl (ai_cons (t := 3) rfl (ai_cons (t := 4) rfl (ai_cons (t := 5) rfl (ai_cons (t := 6) rfl ai_nil))))) ?_
      refine hw_block ?_
      refine hw_loop (α := Nat × Nat × Nat) [(0, _), (4, _)] (fun y => [(3, .int .i64 (y.2.2 : Int)), (5, .int .i64 (y.2.1 : Int)), (6, .int .i64 (y.1 : Int))]) (fun y G7 => Ext [] H G7 ∧ Sl fSet.rep G7 S v0 l ∧ y.1 ≤ l.length ∧ scanR l x.1 y.1 x.2 = some y.2.2 ∧ cntB (hasN l x.1) y.1 = y.2.1) (fun y => l.length - y.1) (0, 0, x.2) (ai_cons (t := 3) rfl (ai_cons (t := 5) rfl (ai_cons (t := 6) rfl (ai_cons (t := 0) rfl (ai_cons (t := 4) rfl ai_nil))))) ?_ ?_
      · exact ⟨hx0, hs, ⟨Nat.zero_le _, rfl, rfl⟩⟩
      · intro y G7 hI
        obtain ⟨hx0, hs, ⟨hj, hsc, hcn⟩⟩ := hI
        have hx0z := hx0.size
        have hcl := cntB_le (hasN l x.1) y.1
        refine hw_seq ?_
        refine hw_seq ?_
        refine hw_region ?_
        refine hl_v (v_move rfl) rfl ?_
        refine hl_v (v_move rfl) rfl ?_
        refine hl_v (v_lenL rfl Try.underlying48 rfl (by first | assumption | exact Ow.sl0 (by assumption))) rfl ?_
        refine hl_v (v_lss rfl rfl) rfl ?_
        refine hl_nil ?_
        refine thenQ_n ?_
        refine hw_sub _ (ai_cons (t := 0) rfl (ai_cons (t := 3) rfl (ai_cons (t := 4) rfl (ai_cons (t := 5) rfl (ai_cons (t := 6) rfl (ai_cons (t := 14) rfl ai_nil)))))) ?_
        refine hw_cond rfl (fun hc2 => ?_) (fun hc2 => ?_)
        · try simp only [decide_eq_true_eq, decide_eq_false_iff_not, Bool.and_eq_true, Bool.and_eq_false_iff, Bool.or_eq_true, Bool.or_eq_false_iff, Bool.not_eq_true', Bool.not_eq_false', Bool.not_eq_true, Bool.not_eq_false, beq_iff_eq, Int.not_lt, Int.not_le] at hc2
          refine hw_skip ?_
          refine thenQ_n ?_
          refine hw_seq ?_
          refine hw_block ?_
          refine hw_seq ?_
          refine hw_region ?_
          refine hl_v (v_move rfl) rfl ?_
          refine hl_v (v_move rfl) rfl ?_
          refine hl_v (v_ixL Try.underlying48 Try.sizeOf31 rfl rfl (by first | assumption | exact Ow.sl0 (by assumption)) (by first | omega | assumption | (simp only [Int.toNat_natCast]; omega) | (simp; done) | (simp at *; omega))) rfl ?_
          refine hl_v (v_loadFl Try.isAgg31 Try.sizeOf31 rfl (by first | assumption | exact Ow.sl0 (by assumption)) rfl (by first | omega | assumption | (simp only [Int.toNat_natCast]; omega) | (simp; done) | (simp at *; omega))) rfl ?_
          refine hl_v (v_move rfl) rfl ?_
          refine hl_h (h_call Try.call23 (evs_cons rfl (evs_cons rfl evs_nil)) (rHas_spec (by first | omega | assumption | (simp only [Int.toNat_natCast]; omega) | (simp; done) | (simp at *; omega)))) rfl ?_
          rintro _ H3 ⟨rfl, n4⟩
          have n4s := n4.size
          replace hx0 := Ext.trans hx0 n4
          replace hs := Sl.ext0 hs n4
          refine hl_nil ?_
          refine thenQ_n ?_
          refine hw_sub _ (ai_cons (t := 0) rfl (ai_cons (t := 3) rfl (ai_cons (t := 4) rfl (ai_cons (t := 5) rfl (ai_cons (t := 6) rfl (ai_cons (t := 22) rfl ai_nil)))))) ?_
          refine hw_cond rfl (fun hc5 => ?_) (fun hc5 => ?_)
          · try simp only [decide_eq_true_eq, decide_eq_false_iff_not, Bool.and_eq_true, Bool.and_eq_false_iff, Bool.or_eq_true, Bool.or_eq_false_iff, Bool.not_eq_true', Bool.not_eq_false', Bool.not_eq_true, Bool.not_eq_false, beq_iff_eq, Int.not_lt, Int.not_le] at hc5
            refine hw_seq ?_
            refine hw_region ?_
            refine hl_v (v_move rfl) rfl ?_
            refine hl_v (v_add rfl rfl (by first | omega | assumption | (simp only [Int.toNat_natCast]; omega) | (simp; done) | (simp at *; omega))) rfl ?_
            refine hl_v (v_assign rfl) rfl ?_
            refine hl_nil ?_
            refine thenQ_n ?_
            refine hw_sub _ (ai_cons (t := 0) rfl (ai_cons (t := 3) rfl (ai_cons (t := 4) rfl (ai_cons (t := 5) rfl (ai_cons (t := 6) rfl ai_nil))))) ?_
            refine hw_seq ?_
            refine hw_seq ?_
            refine hw_region ?_
            refine hl_v (v_move rfl) rfl ?_
            refine hl_v (v_move rfl) rfl ?_
            refine hl_v (v_gtr rfl rfl) rfl ?_
            refine hl_nil ?_
            refine thenQ_n ?_
            refine hw_sub _ (ai_cons (t := 0) rfl (ai_cons (t := 3) rfl (ai_cons (t := 4) rfl (ai_cons (t := 5) rfl (ai_cons (t := 6) rfl (ai_cons (t := 27) rfl ai_nil)))))) ?_
            refine hw_cond rfl (fun hc6 => ?_) (fun hc6 => ?_)
            · try simp only [decide_eq_true_eq, decide_eq_false_iff_not, Bool.and_eq_true, Bool.and_eq_false_iff, Bool.or_eq_true, Bool.or_eq_false_iff, Bool.not_eq_true', Bool.not_eq_false', Bool.not_eq_true, Bool.not_eq_false, beq_iff_eq, Int.not_lt, Int.not_le] at hc6
              refine hw_seq ?_
              refine hw_region ?_
              refine hl_v (v_assign rfl) rfl ?_
              refine hl_nil ?_
              refine thenQ_n ?_
              refine hw_sub _ (ai_cons (t := 2) rfl ai_nil) ?_
              refine hw_ret ?_
              refine thenQ_r ?_
              refine blockQ_r ?_
              refine thenQ_r ?_
              refine thenQ_r ?_
              refine blockQ_r ?_
              refine thenQ_r ?_
              refine blockQ_r ?_
              refine thenQ_r ?_
              refine thenQ_r ?_
              refine blockQ_r ?_
              refine thenQ_r ?_
              refine ret_i _ (ra_t rfl ra_nil) ?_
              exact ⟨congrArg Value.bool (right_bad1 (by omega) hr hsc (by omega) (show hasN l x.1 y.1 = true from by assumption) (by omega)).symm, hx0⟩
            · try simp only [decide_eq_true_eq, decide_eq_false_iff_not, Bool.and_eq_true, Bool.and_eq_false_iff, Bool.or_eq_true, Bool.or_eq_false_iff, Bool.not_eq_true', Bool.not_eq_false', Bool.not_eq_true, Bool.not_eq_false, beq_iff_eq, Int.not_lt, Int.not_le] at hc6
              refine hw_skip ?_
              refine thenQ_n ?_
              refine hw_seq ?_
              refine hw_region ?_
              refine hl_v (v_move rfl) rfl ?_
              refine hl_v (v_move rfl) rfl ?_
              refine hl_v (v_eql rfl rfl) rfl ?_
              refine hl_nil ?_
              refine thenQ_n ?_
              refine hw_sub _ (ai_cons (t := 0) rfl (ai_cons (t := 3) rfl (ai_cons (t := 4) rfl (ai_cons (t := 5) rfl (ai_cons (t := 6) rfl (ai_cons (t := 30) rfl ai_nil)))))) ?_
              refine hw_cond rfl (fun hc7 => ?_) (fun hc7 => ?_)
              · try simp only [decide_eq_true_eq, decide_eq_false_iff_not, Bool.and_eq_true, Bool.and_eq_false_iff, Bool.or_eq_true, Bool.or_eq_false_iff, Bool.not_eq_true', Bool.not_eq_false', Bool.not_eq_true, Bool.not_eq_false, beq_iff_eq, Int.not_lt, Int.not_le] at hc7
                refine hw_region ?_
                refine hl_v (v_move rfl) rfl ?_
                refine hl_v (v_add rfl rfl (by first | omega | assumption | (simp only [Int.toNat_natCast]; omega) | (simp; done) | (simp at *; omega))) rfl ?_
                refine hl_v (v_assign rfl) rfl ?_
                refine hl_nil ?_
                refine blockQ_n ?_
                refine thenQ_n ?_
                refine hw_region ?_
                refine hl_v (v_move rfl) rfl ?_
                refine hl_v (v_add rfl rfl (by first | omega | assumption | (simp only [Int.toNat_natCast]; omega) | (simp; done) | (simp at *; omega))) rfl ?_
                refine hl_v (v_assign rfl) rfl ?_
                refine hl_nil ?_
                refine thenQ_n ?_
                refine ⟨(y.1 + 1, y.2.1 + 1, y.2.2 + 1), (ai_cons (t := 3) rfl (ai_cons (t := 5) rfl (ai_cons (t := 6) rfl (ai_cons (t := 0) rfl (ai_cons (t := 4) rfl ai_nil))))), ?_, ?_⟩
                · skip
                  exact ⟨hx0, hs, ⟨by omega, scan_a (m := y.2.2) hsc (show hasN l x.1 y.1 = true from by assumption) (by omega), cnt_yes hcn (show hasN l x.1 y.1 = true from by assumption)⟩⟩
                · omega
              · try simp only [decide_eq_true_eq, decide_eq_false_iff_not, Bool.and_eq_true, Bool.and_eq_false_iff, Bool.or_eq_true, Bool.or_eq_false_iff, Bool.not_eq_true', Bool.not_eq_false', Bool.not_eq_true, Bool.not_eq_false, beq_iff_eq, Int.not_lt, Int.not_le] at hc7
                refine hw_skip ?_
                refine blockQ_n ?_
                refine thenQ_n ?_
                refine hw_region ?_
                refine hl_v (v_move rfl) rfl ?_
                refine hl_v (v_add rfl rfl (by first | omega | assumption | (simp only [Int.toNat_natCast]; omega) | (simp; done) | (simp at *; omega))) rfl ?_
                refine hl_v (v_assign rfl) rfl ?_
                refine hl_nil ?_
                refine thenQ_n ?_
                refine ⟨(y.1 + 1, y.2.1 + 1, y.2.2), (ai_cons (t := 3) rfl (ai_cons (t := 5) rfl (ai_cons (t := 6) rfl (ai_cons (t := 0) rfl (ai_cons (t := 4) rfl ai_nil))))), ?_, ?_⟩
                · skip
                  exact ⟨hx0, hs, ⟨by omega, scan_b (m := y.2.2) hsc (show hasN l x.1 y.1 = true from by assumption) (by omega) (by omega), cnt_yes hcn (show hasN l x.1 y.1 = true from by assumption)⟩⟩
                · omega
          · try simp only [decide_eq_true_eq, decide_eq_false_iff_not, Bool.and_eq_true, Bool.and_eq_false_iff, Bool.or_eq_true, Bool.or_eq_false_iff, Bool.not_eq_true', Bool.not_eq_false', Bool.not_eq_true, Bool.not_eq_false, beq_iff_eq, Int.not_lt, Int.not_le] at hc5
            refine hw_skip ?_
            refine blockQ_n ?_
            refine thenQ_n ?_
            refine hw_region ?_
            refine hl_v (v_move rfl) rfl ?_
            refine hl_v (v_add rfl rfl (by first | omega | assumption | (simp only [Int.toNat_natCast]; omega) | (simp; done) | (simp at *; omega))) rfl ?_
            refine hl_v (v_assign rfl) rfl ?_
            refine hl_nil ?_
            refine thenQ_n ?_
            refine ⟨(y.1 + 1, y.2.1, y.2.2), (ai_cons (t := 3) rfl (ai_cons (t := 5) rfl (ai_cons (t := 6) rfl (ai_cons (t := 0) rfl (ai_cons (t := 4) rfl ai_nil))))), ?_, ?_⟩
            · skip
              exact ⟨hx0, hs, ⟨by omega, scan_c (m := y.2.2) hsc (show hasN l x.1 y.1 = false from by assumption), cnt_no hcn (show hasN l x.1 y.1 = false from by assumption)⟩⟩
            · omega
        · try simp only [decide_eq_true_eq, decide_eq_false_iff_not, Bool.and_eq_true, Bool.and_eq_false_iff, Bool.or_eq_true, Bool.or_eq_false_iff, Bool.not_eq_true', Bool.not_eq_false', Bool.not_eq_true, Bool.not_eq_false, beq_iff_eq, Int.not_lt, Int.not_le] at hc2
          refine hw_exit ?_
          refine thenQ_e ?_
          refine thenQ_e ?_
          refine blockQ_hit ?_
          refine thenQ_n ?_
          refine hw_seq ?_
          refine hw_region ?_
          refine hl_v (v_move rfl) rfl ?_
          refine hl_v (v_neq rfl rfl) rfl ?_
          refine hl_nil ?_
          refine thenQ_n ?_
          refine hw_sub _ (ai_cons (t := 0) rfl (ai_cons (t := 3) rfl (ai_cons (t := 4) rfl (ai_cons (t := 34) rfl ai_nil)))) ?_
          refine hw_cond rfl (fun hc8 => ?_) (fun hc8 => ?_)
          · try simp only [decide_eq_true_eq, decide_eq_false_iff_not, Bool.and_eq_true, Bool.and_eq_false_iff, Bool.or_eq_true, Bool.or_eq_false_iff, Bool.not_eq_true', Bool.not_eq_false', Bool.not_eq_true, Bool.not_eq_false, beq_iff_eq, Int.not_lt, Int.not_le] at hc8
            refine hw_seq ?_
            refine hw_region ?_
            refine hl_v (v_assign rfl) rfl ?_
            refine hl_nil ?_
            refine thenQ_n ?_
            refine hw_sub _ (ai_cons (t := 2) rfl ai_nil) ?_
            refine hw_ret ?_
            refine blockQ_r ?_
            refine thenQ_r ?_
            refine thenQ_r ?_
            refine blockQ_r ?_
            refine thenQ_r ?_
            refine ret_i _ (ra_t rfl ra_nil) ?_
            exact ⟨congrArg Value.bool (right_bad2 (by omega) hr (m := y.2.2) (by rw [show l.length = y.1 by omega]; exact hsc) (by rw [show l.length = y.1 by omega]; omega)).symm, hx0⟩
          · try simp only [decide_eq_true_eq, decide_eq_false_iff_not, Bool.and_eq_true, Bool.and_eq_false_iff, Bool.or_eq_true, Bool.or_eq_false_iff, Bool.not_eq_true', Bool.not_eq_false', Bool.not_eq_true, Bool.not_eq_false, beq_iff_eq, Int.not_lt, Int.not_le] at hc8
            refine hw_skip ?_
            refine blockQ_n ?_
            refine thenQ_n ?_
            refine hw_region ?_
            refine hl_v (v_move rfl) rfl ?_
            refine hl_v (v_add rfl rfl (by first | omega | assumption | (simp only [Int.toNat_natCast]; omega) | (simp; done) | (simp at *; omega))) rfl ?_
            refine hl_v (v_assign rfl) rfl ?_
            refine hl_nil ?_
            refine thenQ_n ?_
            refine ⟨(x.1 + 1, y.2.2), (ai_cons (t := 3) rfl (ai_cons (t := 4) rfl (ai_cons (t := 0) rfl ai_nil))), ?_, ?_⟩
            · skip
              exact ⟨hx0, hs, ⟨by omega, right_step hr (by rw [show l.length = y.1 by omega]; exact hsc) (by rw [show l.length = y.1 by omega]; omega)⟩⟩
            · omega
    · try simp only [decide_eq_true_eq, decide_eq_false_iff_not, Bool.and_eq_true, Bool.and_eq_false_iff, Bool.or_eq_true, Bool.or_eq_false_iff, Bool.not_eq_true', Bool.not_eq_false', Bool.not_eq_true, Bool.not_eq_false, beq_iff_eq, Int.not_lt, Int.not_le] at hc1
      refine hw_exit ?_
      refine thenQ_e ?_
      refine thenQ_e ?_
      refine blockQ_hit ?_
      refine thenQ_n ?_
      refine hw_seq ?_
      refine hw_region ?_
      refine hl_v (v_move rfl) rfl ?_
      refine hl_v (v_move rfl) rfl ?_
      refine hl_v (v_lenL rfl Try.underlying48 rfl (by first | assumption | exact Ow.sl0 (by assumption))) rfl ?_
      refine hl_v (v_eql rfl rfl) rfl ?_
      refine hl_v (v_assign rfl) rfl ?_
      refine hl_nil ?_
      refine thenQ_n ?_
      refine hw_sub _ (ai_cons (t := 2) rfl ai_nil) ?_
      refine hw_ret ?_
      refine ret_i _ (ra_t rfl ra_nil) ?_
      have hk6 : x.1 = 256 := by omega
      rw [hk6] at hr
      refine ⟨congrArg Value.bool ?_, hx0⟩
      unfold rightB
      rw [hr]
      apply decide_eq_decide.2
      constructor
      · intro h; exact congrArg some (by omega)
      · intro h; have := Option.some.inj h; omega

theorem rSets_spec {v0 : Value} {c : List Int} {S : Nat → Prop} {H : Heap} (hs : Sl fInt.rep H S v0 c) (hS : ∀ b, S b → b < H.size) : HC Try.prog 45 [v0] H (fun v H' => ∃ u, v = .tuple #[u, .int .i64 (if okB c then 0 else 1)] ∧ Ow fSet H' H.size 31 u (if okB c then partsK c 256 else []) ∧ Ext [] H H') := by
  have hx0 : Ext [] H H := Ext.refl _
  refine hc_of_hw (N := 62) (rs := [(.tmp 2), (.tmp 3)]) Try.func45 rfl rfl rfl rfl ?_
  refine hw_seq ?_
  refine hw_region ?_
  refine hl_v (v_assign rfl) rfl ?_
  refine hl_v (v_assign rfl) rfl ?_
  refine hl_nil ?_
  refine thenQ_n ?_
  refine hw_sub _ (ai_cons (t := 0) rfl ai_nil) ?_
  refine hw_seq ?_
  refine hw_seq ?_
  refine hw_region ?_
  refine hl_v (v_move rfl) rfl ?_
  refine hl_v (v_lenL rfl Try.underlying51 rfl (by first | assumption | exact Ow.sl0 (by assumption))) rfl ?_
  refine hl_v (v_neq rfl rfl) rfl ?_
  refine hl_nil ?_
  refine thenQ_n ?_
  refine hw_sub _ (ai_cons (t := 0) rfl (ai_cons (t := 12) rfl ai_nil)) ?_
  refine hw_cond rfl (fun hc1 => ?_) (fun hc1 => ?_)
  · try simp only [decide_eq_true_eq, decide_eq_false_iff_not, Bool.and_eq_true, Bool.and_eq_false_iff, Bool.or_eq_true, Bool.or_eq_false_iff, Bool.not_eq_true', Bool.not_eq_false', Bool.not_eq_true, Bool.not_eq_false, beq_iff_eq, Int.not_lt, Int.not_le] at hc1
    refine hw_seq ?_
    refine hw_region ?_
    refine hl_v (v_assign rfl) rfl ?_
    refine hl_v (v_assign rfl) rfl ?_
    refine hl_nil ?_
    refine thenQ_n ?_
    refine hw_sub _ (ai_cons (t := 2) rfl (ai_cons (t := 3) rfl ai_nil)) ?_
    refine hw_ret ?_
    refine thenQ_r ?_
    refine ret_i _ (ra_t rfl (ra_t rfl ra_nil)) ?_
    rw [okB_len (by omega)]
    exact ⟨_, rfl, Ow.nil, hx0⟩
  · try simp only [decide_eq_true_eq, decide_eq_false_iff_not, Bool.and_eq_true, Bool.and_eq_false_iff, Bool.or_eq_true, Bool.or_eq_false_iff, Bool.not_eq_true', Bool.not_eq_false', Bool.not_eq_true, Bool.not_eq_false, beq_iff_eq, Int.not_lt, Int.not_le] at hc1
    refine hw_skip ?_
    refine thenQ_n ?_
    refine hw_seq ?_
    refine hw_region ?_
    refine hl_v (v_assign rfl) rfl ?_
    refine hl_nil ?_
    refine thenQ_n ?_
    refine hw_sub _ (ai_cons (t := 0) rfl (ai_cons (t := 4) rfl ai_nil)) ?_
    refine hw_seq ?_
    refine hw_seq ?_
    refine hw_region ?_
    refine hl_v (v_assign rfl) rfl ?_
    refine hl_nil ?_
    refine thenQ_n ?_
    refine hw_sub _ (ai_cons (t := 0) rfl (ai_cons (t := 4) rfl (ai_cons (t := 5) rfl ai_nil))) ?_
    refine hw_block ?_
    refine hw_loop (α := Nat) [(0, _)] (fun k => [(4, .int .i64 ((top c k : Int) - 1)), (5, .int .i64 (k : Int))]) (fun k G5 => Ext [] H G5 ∧ Sl fInt.rep G5 S v0 c ∧ k ≤ 256 ∧ okTo c k) (fun k => 256 - k) 0 (ai_cons (t := 4) rfl (ai_cons (t := 5) rfl (ai_cons (t := 0) rfl ai_nil))) ?_ ?_
    · exact ⟨hx0, hs, ⟨Nat.zero_le _, fun m hm => absurd hm (Nat.not_lt_zero _)⟩⟩
    · intro k G5 hI
      obtain ⟨hx0, hs, ⟨hk, hok⟩⟩ := hI
      have hx0z := hx0.size
      have htl := top_le c k
      refine hw_seq ?_
      refine hw_seq ?_
      refine hw_region ?_
      refine hl_v (v_move rfl) rfl ?_
      refine hl_v (v_lss rfl rfl) rfl ?_
      refine hl_nil ?_
      refine thenQ_n ?_
      refine hw_sub _ (ai_cons (t := 0) rfl (ai_cons (t := 4) rfl (ai_cons (t := 5) rfl (ai_cons (t := 14) rfl ai_nil)))) ?_
      refine hw_cond rfl (fun hc2 => ?_) (fun hc2 => ?_)
      · try simp only [decide_eq_true_eq, decide_eq_false_iff_not, Bool.and_eq_true, Bool.and_eq_false_iff, Bool.or_eq_true, Bool.or_eq_false_iff, Bool.not_eq_true', Bool.not_eq_false', Bool.not_eq_true, Bool.not_eq_false, beq_iff_eq, Int.not_lt, Int.not_le] at hc2
        refine hw_skip ?_
        refine thenQ_n ?_
        refine hw_seq ?_
        refine hw_block ?_
        refine hw_seq ?_
        refine hw_seq ?_
        refine hw_region ?_
        refine hl_v (v_move rfl) rfl ?_
        refine hl_v (v_move rfl) rfl ?_
        refine hl_v (v_ixL Try.underlying51 Try.sizeOf3 rfl rfl (by first | assumption | exact Ow.sl0 (by assumption)) (by first | omega | assumption | (simp only [Int.toNat_natCast]; omega) | (simp; done) | (simp at *; omega))) rfl ?_
        refine hl_v (v_loadSc Try.isAgg3 rfl (by first | assumption | exact Ow.sl0 (by assumption)) rfl (by first | omega | assumption | (simp only [Int.toNat_natCast]; omega) | (simp; done) | (simp at *; omega)) rfl) rfl ?_
        refine hl_v (v_lss rfl rfl) rfl ?_
        refine hl_v (v_move rfl) rfl ?_
        refine hl_g rfl rfl (fun hg => (v_move rfl)) rfl ?_
        refine hl_g rfl rfl (fun hg => (v_move rfl)) rfl ?_
        refine hl_g rfl rfl (fun hg => (v_ixL Try.underlying51 Try.sizeOf3 (gv_ok rfl hg) (gv_ok rfl hg) (by first | assumption | exact Ow.sl0 (by assumption)) (by simp only [gb_t, gb_f, gb_g, decide_eq_true_eq, decide_eq_false_iff_not, Bool.and_eq_true, Bool.and_eq_false_iff, Bool.or_eq_true, Bool.or_eq_false_iff, Bool.not_eq_true', Bool.not_eq_false', Bool.not_eq_true, Bool.not_eq_false, beq_iff_eq, Int.not_lt, Int.not_le] at hg; (first | omega | assumption | (simp only [Int.toNat_natCast]; omega) | (simp; done) | (simp at *; omega))))) rfl ?_
        refine hl_g rfl rfl (fun hg => (v_loadSc Try.isAgg3 (gv_ok rfl hg) (by first | assumption | exact Ow.sl0 (by assumption)) rfl (by simp only [gb_t, gb_f, gb_g, decide_eq_true_eq, decide_eq_false_iff_not, Bool.and_eq_true, Bool.and_eq_false_iff, Bool.or_eq_true, Bool.or_eq_false_iff, Bool.not_eq_true', Bool.not_eq_false', Bool.not_eq_true, Bool.not_eq_false, beq_iff_eq, Int.not_lt, Int.not_le] at hg; (first | omega | assumption | (simp only [Int.toNat_natCast]; omega) | (simp; done) | (simp at *; omega))) rfl)) rfl ?_
        refine hl_g rfl rfl (fun hg => (v_move rfl)) rfl ?_
        refine hl_g rfl rfl (fun hg => (v_add (gv_ok rfl hg) rfl (by simp only [gb_t, gb_f, gb_g, decide_eq_true_eq, decide_eq_false_iff_not, Bool.and_eq_true, Bool.and_eq_false_iff, Bool.or_eq_true, Bool.or_eq_false_iff, Bool.not_eq_true', Bool.not_eq_false', Bool.not_eq_true, Bool.not_eq_false, beq_iff_eq, Int.not_lt, Int.not_le] at hg; (first | omega | assumption | (simp only [Int.toNat_natCast]; omega) | (simp; done) | (simp at *; omega))))) rfl ?_
        refine hl_g rfl rfl (fun hg => (v_gtr (gv_ok rfl hg) (gv_ok rfl hg))) rfl ?_
        refine hl_v (v_or rfl rfl) rfl ?_
        refine hl_nil ?_
        refine thenQ_n ?_
        refine hw_sub _ (ai_cons (t := 0) rfl (ai_cons (t := 4) rfl (ai_cons (t := 5) rfl (ai_cons (t := 30) rfl ai_nil)))) ?_
        refine hw_cond rfl (fun hc3 => ?_) (fun hc3 => ?_)
        · try simp only [decide_eq_true_eq, decide_eq_false_iff_not, Bool.and_eq_true, Bool.and_eq_false_iff, Bool.or_eq_true, Bool.or_eq_false_iff, Bool.not_eq_true', Bool.not_eq_false', Bool.not_eq_true, Bool.not_eq_false, beq_iff_eq, Int.not_lt, Int.not_le] at hc3
          refine hw_seq ?_
          refine hw_region ?_
          refine hl_v (v_assign rfl) rfl ?_
          refine hl_v (v_assign rfl) rfl ?_
          refine hl_nil ?_
          refine thenQ_n ?_
          refine hw_sub _ (ai_cons (t := 2) rfl (ai_cons (t := 3) rfl ai_nil)) ?_
          refine hw_ret ?_
          refine thenQ_r ?_
          refine blockQ_r ?_
          refine thenQ_r ?_
          refine thenQ_r ?_
          refine blockQ_r ?_
          refine thenQ_r ?_
          refine ret_i _ (ra_t rfl (ra_t rfl ra_nil)) ?_
          rw [okB_bad (m := k) (by omega) (by rcases hc3 with h | h; exact .inl h; exact .inr (by show _ < c.getD (k : Int).toNat default; omega))]
          exact ⟨_, rfl, Ow.nil, hx0⟩
        · try simp only [decide_eq_true_eq, decide_eq_false_iff_not, Bool.and_eq_true, Bool.and_eq_false_iff, Bool.or_eq_true, Bool.or_eq_false_iff, Bool.not_eq_true', Bool.not_eq_false', Bool.not_eq_true, Bool.not_eq_false, beq_iff_eq, Int.not_lt, Int.not_le] at hc3
          refine hw_skip ?_
          refine thenQ_n ?_
          refine hw_region ?_
          refine hl_v (v_move rfl) rfl ?_
          refine hl_v (v_move rfl) rfl ?_
          refine hl_v (v_move rfl) rfl ?_
          refine hl_v (v_ixL Try.underlying51 Try.sizeOf3 rfl rfl (by first | assumption | exact Ow.sl0 (by assumption)) (by first | omega | assumption | (simp only [Int.toNat_natCast]; omega) | (simp; done) | (simp at *; omega))) rfl ?_
          refine hl_v (v_loadSc Try.isAgg3 rfl (by first | assumption | exact Ow.sl0 (by assumption)) rfl (by first | omega | assumption | (simp only [Int.toNat_natCast]; omega) | (simp; done) | (simp at *; omega)) rfl) rfl ?_
          refine hl_v (v_maxI rfl rfl) rfl ?_
          refine hl_v (v_assign rfl) rfl ?_
          refine hl_nil ?_
          refine blockQ_n ?_
          refine thenQ_n ?_
          have hmx : (if c.getD (k : Int).toNat default > (top c k : Int) - 1 then c.getD (k : Int).toNat default else (top c k : Int) - 1) = (top c (k + 1) : Int) - 1 := by
            have h1 := hc3.2
            have h0 := hc3.1
            have e : c.getD (k : Int).toNat default = c.getD k 0 := rfl
            rw [e] at h0 h1 ⊢
            simp only [top]
            split <;> split <;> omega
          refine hw_region ?_
          refine hl_v (v_move rfl) rfl ?_
          refine hl_v (v_add rfl rfl (by first | omega | assumption | (simp only [Int.toNat_natCast]; omega) | (simp; done) | (simp at *; omega))) rfl ?_
          refine hl_v (v_assign rfl) rfl ?_
          refine hl_nil ?_
          refine thenQ_n ?_
          refine ⟨k + 1, (ai_cons (t := 4) (by first | rfl | (show some _ = some _; congr 2 <;> exact hmx)) (ai_cons (t := 5) (by first | rfl | (show some _ = some _; congr 2 <;> exact hmx)) (ai_cons (t := 0) rfl ai_nil))), ?_, ?_⟩
          · skip
            exact ⟨hx0, hs, ⟨by omega, okTo_succ hok hc3.1 (by have h1 := hc3.2; show c.getD (k : Int).toNat default ≤ _; omega)⟩⟩
          · omega
      · try simp only [decide_eq_true_eq, decide_eq_false_iff_not, Bool.and_eq_true, Bool.and_eq_false_iff, Bool.or_eq_true, Bool.or_eq_false_iff, Bool.not_eq_true', Bool.not_eq_false', Bool.not_eq_true, Bool.not_eq_false, beq_iff_eq, Int.not_lt, Int.not_le] at hc2
        refine hw_exit ?_
        refine thenQ_e ?_
        refine thenQ_e ?_
        refine blockQ_hit ?_
        refine thenQ_n ?_
        refine hw_seq ?_
        have hk6 : k = 256 := by omega
        subst hk6
        have htl256 := htl
        refine hw_region ?_
        refine hl_v (v_assign rfl) rfl ?_
        refine hl_nil ?_
        refine thenQ_n ?_
        refine hw_sub _ (ai_cons (t := 0) rfl (ai_cons (t := 4) rfl (ai_cons (t := 6) rfl ai_nil))) ?_
        refine hw_seq ?_
        refine hw_seq ?_
        refine hw_region ?_
        refine hl_v (v_assign rfl) rfl ?_
        refine hl_nil ?_
        refine thenQ_n ?_
        refine hw_sub _ (ai_cons (t := 0) rfl (ai_cons (t := 4) rfl (ai_cons (t := 6) rfl (ai_cons (t := 7) rfl ai_nil)))) ?_
        refine hw_block ?_
        refine hw_loop (α := Nat × Value) [(0, _), (4, _)] (fun x => [(6, x.2), (7, .int .i64 (x.1 : Int))]) (fun x G12 => Ext [] H G12 ∧ Sl fInt.rep G12 S v0 c ∧ Ow fSet G12 H.size 31 x.2 ((partsK c 256).take x.1) ∧ x.1 ≤ top c 256) (fun x => top c 256 - x.1) (0, .slice none 0 0) (ai_cons (t := 6) rfl (ai_cons (t := 7) rfl (ai_cons (t := 0) rfl (ai_cons (t := 4) rfl ai_nil)))) ?_ ?_
        · exact ⟨hx0, hs, Ow.nil, Nat.zero_le _⟩
        · intro x G12 hI
          obtain ⟨hx0, hs, ow, hj⟩ := hI
          have hx0z := hx0.size
          have hpl := partsK_len c 256
          have htk : ((partsK c 256).take x.1).length = x.1 := by rw [List.length_take]; omega
          refine hw_seq ?_
          refine hw_seq ?_
          refine hw_region ?_
          refine hl_v (v_move rfl) rfl ?_
          refine hl_v (v_move rfl) rfl ?_
          refine hl_v (v_leq rfl rfl) rfl ?_
          refine hl_nil ?_
          refine thenQ_n ?_
          refine hw_sub _ (ai_cons (t := 0) rfl (ai_cons (t := 4) rfl (ai_cons (t := 6) rfl (ai_cons (t := 7) rfl (ai_cons (t := 39) rfl ai_nil))))) ?_
          refine hw_cond rfl (fun hc4 => ?_) (fun hc4 => ?_)
          · try simp only [decide_eq_true_eq, decide_eq_false_iff_not, Bool.and_eq_true, Bool.and_eq_false_iff, Bool.or_eq_true, Bool.or_eq_false_iff, Bool.not_eq_true', Bool.not_eq_false', Bool.not_eq_true, Bool.not_eq_false, beq_iff_eq, Int.not_lt, Int.not_le] at hc4
            refine hw_skip ?_
            refine thenQ_n ?_
            refine hw_seq ?_
            refine hw_block ?_
            refine hw_seq ?_
            have howlt : ∀ b, b ∈ mb x.2 → b < G12.size := fun b hb => (Ow.lt ow b hb).2
            refine hw_region ?_
            refine hl_h (h_makeSlice (g := fBool) (d := default) (B := G12.size) Try.underlying71 Try.type4 rfl rfl rfl (by decide) rfl rfl (by first | omega | assumption | (simp only [Int.toNat_natCast]; omega) | (simp; done) | (simp at *; omega)) (by first | omega | assumption | (simp only [Int.toNat_natCast]; omega) | (simp; done) | (simp at *; omega)) (by rw [show Try.t4.bytes = 1 from rfl]; (first | omega | assumption | (simp only [Int.toNat_natCast]; omega) | (simp; done) | (simp at *; omega))) (by first | omega | assumption | (simp only [Int.toNat_natCast]; omega) | (simp; done) | (simp at *; omega))) rfl ?_
            rintro _ H5 ⟨rfl, n6o, n6x, n6s⟩
            replace hx0 := Ext.trans hx0 n6x
            replace hs := Sl.ext0 hs n6x
            replace ow := Ow.ext0 ow n6x
            refine hl_v (v_assign rfl) rfl ?_
            refine hl_nil ?_
            refine thenQ_n ?_
            refine hw_sub _ (ai_cons (t := 0) rfl (ai_cons (t := 4) rfl (ai_cons (t := 6) rfl (ai_cons (t := 7) rfl (ai_cons (t := 8) rfl ai_nil))))) ?_
            refine hw_seq ?_
            refine hw_seq ?_
            refine hw_region ?_
            refine hl_v (v_assign rfl) rfl ?_
            refine hl_nil ?_
            refine thenQ_n ?_
            refine hw_sub _ (ai_cons (t := 0) rfl (ai_cons (t := 4) rfl (ai_cons (t := 6) rfl (ai_cons (t := 7) rfl (ai_cons (t := 8) rfl (ai_cons (t := 9) rfl ai_nil)))))) ?_
            refine hw_block ?_
            refine hw_loop (α := Nat) [(0, _), (4, _), (6, _), (7, _), (8, _)] (fun b => [(9, .int .i64 (b : Int))]) (fun b G16 => Ext [] H G16 ∧ Sl fInt.rep G16 S v0 c ∧ Ow fSet G16 H.size 31 x.2 ((partsK c 256).take x.1) ∧ Ow fBool G16 G12.size 4 (.slice (some ⟨G12.size, 0, none⟩) (256 : Int).toNat (256 : Int).toNat) (upto (fun m => decide (c.getD m 0 = (x.1 : Int))) b) ∧ b ≤ 256) (fun b => 256 - b) 0 (ai_cons (t := 9) rfl (ai_cons (t := 0) rfl (ai_cons (t := 4) rfl (ai_cons (t := 6) rfl (ai_cons (t := 7) rfl (ai_cons (t := 8) rfl ai_nil)))))) ?_ ?_
            · exact ⟨hx0, hs, ow, (n6o.congr (upto_none fun m hm => absurd hm (Nat.not_lt_zero _))), Nat.zero_le _⟩
            · intro b G16 hI
              obtain ⟨hx0, hs, ow, n6o, hb⟩ := hI
              have hx0z := hx0.size
              have htl2 := upto_len (fun m => decide (c.getD m 0 = (x.1 : Int))) b
              refine hw_seq ?_
              refine hw_seq ?_
              refine hw_region ?_
              refine hl_v (v_move rfl) rfl ?_
              refine hl_v (v_lss rfl rfl) rfl ?_
              refine hl_nil ?_
              refine thenQ_n ?_
              refine hw_sub _ (ai_cons (t := 0) rfl (ai_cons (t := 4) rfl (ai_cons (t := 6) rfl (ai_cons (t := 7) rfl (ai_cons (t := 8) rfl (ai_cons (t := 9) rfl (ai_cons (t := 44) rfl ai_nil))))))) ?_
              refine hw_cond rfl (fun hc7 => ?_) (fun hc7 => ?_)
              · try simp only [decide_eq_true_eq, decide_eq_false_iff_not, Bool.and_eq_true, Bool.and_eq_false_iff, Bool.or_eq_true, Bool.or_eq_false_iff, Bool.not_eq_true', Bool.not_eq_false', Bool.not_eq_true, Bool.not_eq_false, beq_iff_eq, Int.not_lt, Int.not_le] at hc7
                refine hw_skip ?_
                refine thenQ_n ?_
                refine hw_seq ?_
                refine hw_block ?_
                refine hw_region ?_
                refine hl_v (v_move rfl) rfl ?_
                refine hl_v (v_move rfl) rfl ?_
                refine hl_v (v_move rfl) rfl ?_
                refine hl_v (v_move rfl) rfl ?_
                refine hl_v (v_ixL Try.underlying51 Try.sizeOf3 rfl rfl (by first | assumption | exact Ow.sl0 (by assumption)) (by first | omega | assumption | (simp only [Int.toNat_natCast]; omega) | (simp; done) | (simp at *; omega))) rfl ?_
                refine hl_v (v_loadSc Try.isAgg3 rfl (by first | assumption | exact Ow.sl0 (by assumption)) rfl (by first | omega | assumption | (simp only [Int.toNat_natCast]; omega) | (simp; done) | (simp at *; omega)) rfl) rfl ?_
                refine hl_v (v_move rfl) rfl ?_
                refine hl_v (v_eql rfl rfl) rfl ?_
                refine hl_v (v_ixL Try.underlying71 Try.sizeOf4 rfl rfl (by first | assumption | exact Ow.sl0 (by assumption)) (by first | omega | assumption | (simp only [Int.toNat_natCast]; omega) | (simp; done) | (simp at *; omega))) rfl ?_
                refine hl_s (h_storeOw1 Try.sizeOf4 rfl rfl rfl rfl n6o (by first | omega | assumption | (simp only [Int.toNat_natCast]; omega) | (simp; done) | (simp at *; omega)) rfl rfl) ?_
                rintro _ H8 p9
                have p9s := p9.size
                replace hx0 := Ext.fresh hx0 p9.ext (by intro b hb; exact Or.inl (Nat.le_trans (by omega) (Ow.lt n6o b hb).1))
                replace hs := Sl.ext hs p9.ext (by intro b hb; (try have hSb := hS b hb); intro hm; have hlt := Ow.lt n6o _ hm; (try simp only [mb, List.mem_singleton] at hb); (try simp only [mb, List.mem_singleton] at hm); (try have hsp := howlt _ hb); (try have hsq := howlt _ hm); omega)
                replace ow := Ow.ext ow p9.ext (by intro b hb; have hlb := Ow.lt ow b hb; intro hm; have hlt := Ow.lt n6o _ hm; (try simp only [mb, List.mem_singleton] at hb); (try simp only [mb, List.mem_singleton] at hm); (try have hsp := howlt _ hb); (try have hsq := howlt _ hm); omega)
                replace n6o := p9.ow
                refine hl_nil ?_
                refine blockQ_n ?_
                refine thenQ_n ?_
                refine hw_region ?_
                refine hl_v (v_move rfl) rfl ?_
                refine hl_v (v_add rfl rfl (by first | omega | assumption | (simp only [Int.toNat_natCast]; omega) | (simp; done) | (simp at *; omega))) rfl ?_
                refine hl_v (v_assign rfl) rfl ?_
                refine hl_nil ?_
                refine thenQ_n ?_
                refine ⟨b + 1, (ai_cons (t := 9) rfl (ai_cons (t := 0) rfl (ai_cons (t := 4) rfl (ai_cons (t := 6) rfl (ai_cons (t := 7) rfl (ai_cons (t := 8) rfl ai_nil)))))), ?_, ?_⟩
                · skip
                  exact ⟨hx0, hs, ow, (n6o.congr (upto_set (fun m => decide (c.getD m 0 = (x.1 : Int))) rfl)), by omega⟩
                · omega
              · try simp only [decide_eq_true_eq, decide_eq_false_iff_not, Bool.and_eq_true, Bool.and_eq_false_iff, Bool.or_eq_true, Bool.or_eq_false_iff, Bool.not_eq_true', Bool.not_eq_false', Bool.not_eq_true, Bool.not_eq_false, beq_iff_eq, Int.not_lt, Int.not_le] at hc7
                refine hw_exit ?_
                refine thenQ_e ?_
                refine thenQ_e ?_
                refine blockQ_hit ?_
                refine thenQ_n ?_
                refine hw_region ?_
                refine hl_v (v_move rfl) rfl ?_
                refine hl_v (v_move rfl) rfl ?_
                refine hl_h (h_call Try.call50 (evs_cons rfl evs_nil) (Make_spec (by first | assumption | exact Ow.sl0 (by assumption)) (by first | assumption | exact fun _ h => h | exact fun b hb => (Ow.lt (by assumption) b hb).2 | (intro b hb; have hSb := hS b hb; omega)) (by first | assumption | simp [tab_len]))) rfl ?_
                rintro _ H10 ⟨rfl, n11⟩
                have n11s := n11.size
                replace hx0 := Ext.trans hx0 n11
                replace hs := Sl.ext0 hs n11
                replace ow := Ow.ext0 ow n11
                replace n6o := Ow.ext0 n6o n11
                refine hl_h (h_buildSlice (xs := [.tmp 58]) Try.underlying48 Try.sizeOf31 Try.zeroValue31 rfl (evs_cons rfl evs_nil) rfl (by decide) (by decide) (by intro v hv; simp only [List.mem_cons, List.not_mem_nil, or_false] at hv; rcases hv with rfl <;> rfl)) rfl ?_
                rintro _ H12 ⟨rfl, n13⟩
                have n13s := n13.size
                replace hx0 := Ext.trans hx0 n13.ext
                replace hs := Sl.ext0 hs n13.ext
                replace ow := Ow.ext0 ow n13.ext
                replace n6o := Ow.ext0 n6o n13.ext
                have n13o := Ow.new (g := fSet) (l := [_]) (B := H10.size) n13 rfl (by omega) (by simp)
                refine hl_h (h_append (g := fSet) (B := _) rfl Try.underlying48 Try.type31 rfl rfl rfl rfl (by decide) rfl rfl ow (by first | assumption | exact Ow.sl0 (by assumption)) (by first | (rw [show Try.t31.bytes = 32 from rfl]; simp only [List.length_append, List.length_cons, List.length_nil]; omega) | (rw [show Try.t31.bytes = 32 from rfl]; omega) | omega | (simp only [List.length_append, List.length_cons, List.length_nil]; omega) | assumption | (simp; done)) (by first | (rw [show Try.t31.bytes = 32 from rfl]; simp only [List.length_append, List.length_cons, List.length_nil]; omega) | (rw [show Try.t31.bytes = 32 from rfl]; omega) | omega | (simp only [List.length_append, List.length_cons, List.length_nil]; omega) | assumption | (simp; done)) (by first | (rw [show Try.t31.bytes = 32 from rfl]; simp only [List.length_append, List.length_cons, List.length_nil]; omega) | (rw [show Try.t31.bytes = 32 from rfl]; omega) | omega | (simp only [List.length_append, List.length_cons, List.length_nil]; omega) | assumption | (simp; done))) rfl ?_
                rintro v16 H14 ⟨a15o, a15x, a15n, a15b⟩
                have a15s := a15x.size
                replace hx0 := Ext.fresh hx0 a15x (by intro b hb; exact Or.inl (Nat.le_trans (by omega) (Ow.lt ow b hb).1))
                replace hs := Sl.ext hs a15x (by intro b hb; (try have hSb := hS b hb); intro hm; have hlt := Ow.lt ow _ hm; (try simp only [mb, List.mem_singleton] at hb); (try simp only [mb, List.mem_singleton] at hm); (try have hsp := howlt _ hb); (try have hsq := howlt _ hm); omega)
                replace n6o := Ow.ext n6o a15x (by intro b hb; have hlb := Ow.lt n6o b hb; intro hm; have hlt := Ow.lt ow _ hm; (try simp only [mb, List.mem_singleton] at hb); (try simp only [mb, List.mem_singleton] at hm); (try have hsp := howlt _ hb); (try have hsq := howlt _ hm); omega)
                refine hl_v (v_assign rfl) rfl ?_
                refine hl_nil ?_
                refine blockQ_n ?_
                refine thenQ_n ?_
                refine hw_region ?_
                refine hl_v (v_move rfl) rfl ?_
                refine hl_v (v_add rfl rfl (by first | omega | assumption | (simp only [Int.toNat_natCast]; omega) | (simp; done) | (simp at *; omega))) rfl ?_
                refine hl_v (v_assign rfl) rfl ?_
                refine hl_nil ?_
                refine thenQ_n ?_
                refine ⟨(x.1 + 1, _), (ai_cons (t := 6) rfl (ai_cons (t := 7) rfl (ai_cons (t := 0) rfl (ai_cons (t := 4) rfl ai_nil)))), ?_, ?_⟩
                · skip
                  exact ⟨hx0, hs, (a15o.congr (by rw [take_snoc (by omega), BSet.ofFn_upto, partsK_get c (by omega)]; congr 2; exact BSet.ofFn_congr (fun m hm => by show (decide (m < b) && _) = _; rw [decide_eq_true (show m < b by omega)]; rfl) (Nat.le_refl _))), by omega⟩
                · omega
          · try simp only [decide_eq_true_eq, decide_eq_false_iff_not, Bool.and_eq_true, Bool.and_eq_false_iff, Bool.or_eq_true, Bool.or_eq_false_iff, Bool.not_eq_true', Bool.not_eq_false', Bool.not_eq_true, Bool.not_eq_false, beq_iff_eq, Int.not_lt, Int.not_le] at hc4
            refine hw_exit ?_
            refine thenQ_e ?_
            refine thenQ_e ?_
            refine blockQ_hit ?_
            refine thenQ_n ?_
            refine hw_seq ?_
            refine hw_region ?_
            refine hl_v (v_move rfl) rfl ?_
            refine hl_v (v_assign rfl) rfl ?_
            refine hl_v (v_assign rfl) rfl ?_
            refine hl_nil ?_
            refine thenQ_n ?_
            refine hw_sub _ (ai_cons (t := 2) rfl (ai_cons (t := 3) rfl ai_nil)) ?_
            refine hw_ret ?_
            refine ret_i _ (ra_t rfl (ra_t rfl ra_nil)) ?_
            rw [okB_iff.2 ⟨by omega, hok⟩]
            rw [List.take_of_length_le (by omega)] at ow
            exact ⟨_, rfl, ow, hx0⟩

theorem rClass_spec {v0 : Value} {l : List BSet} {S : Nat → Prop} {H : Heap} (hs : Sl fSet.rep H S v0 l) (hS : ∀ b, S b → b < H.size) : HC Try.prog 31 [v0] H (fun v H' => ∃ u, v = .tuple #[u, .int .i64 (if rightB l then 0 else 1)] ∧ Ow fInt H' H.size 3 u (if rightB l then cls l else []) ∧ Ext [] H H') := by
  have hx0 : Ext [] H H := Ext.refl _
  refine hc_of_hw (N := 9) (rs := [(.tmp 2), (.tmp 3)]) Try.func31 rfl rfl rfl rfl ?_
  refine hw_seq ?_
  refine hw_region ?_
  refine hl_v (v_assign rfl) rfl ?_
  refine hl_v (v_assign rfl) rfl ?_
  refine hl_nil ?_
  refine thenQ_n ?_
  refine hw_sub _ (ai_cons (t := 0) rfl ai_nil) ?_
  refine hw_seq ?_
  refine hw_seq ?_
  refine hw_region ?_
  refine hl_v (v_move rfl) rfl ?_
  refine hl_h (h_call Try.call57 (evs_cons rfl evs_nil) (Right_spec (by first | assumption | exact Ow.sl0 (by assumption)) (by first | assumption | exact fun _ h => h | exact fun b hb => (Ow.lt (by assumption) b hb).2 | (intro b hb; have hSb := hS b hb; omega)))) rfl ?_
  rintro _ H1 ⟨rfl, n2⟩
  have n2s := n2.size
  replace hx0 := Ext.trans hx0 n2
  replace hs := Sl.ext0 hs n2
  refine hl_v (v_not rfl) rfl ?_
  refine hl_nil ?_
  refine thenQ_n ?_
  refine hw_sub _ (ai_cons (t := 0) rfl (ai_cons (t := 6) rfl ai_nil)) ?_
  refine hw_cond rfl (fun hc3 => ?_) (fun hc3 => ?_)
  · try simp only [decide_eq_true_eq, decide_eq_false_iff_not, Bool.and_eq_true, Bool.and_eq_false_iff, Bool.or_eq_true, Bool.or_eq_false_iff, Bool.not_eq_true', Bool.not_eq_false', Bool.not_eq_true, Bool.not_eq_false, beq_iff_eq, Int.not_lt, Int.not_le] at hc3
    refine hw_seq ?_
    refine hw_region ?_
    refine hl_v (v_assign rfl) rfl ?_
    refine hl_v (v_assign rfl) rfl ?_
    refine hl_nil ?_
    refine thenQ_n ?_
    refine hw_sub _ (ai_cons (t := 2) rfl (ai_cons (t := 3) rfl ai_nil)) ?_
    refine hw_ret ?_
    refine thenQ_r ?_
    refine ret_i _ (ra_t rfl (ra_t rfl ra_nil)) ?_
    rw [hc3]
    exact ⟨_, rfl, Ow.nil, hx0⟩
  · try simp only [decide_eq_true_eq, decide_eq_false_iff_not, Bool.and_eq_true, Bool.and_eq_false_iff, Bool.or_eq_true, Bool.or_eq_false_iff, Bool.not_eq_true', Bool.not_eq_false', Bool.not_eq_true, Bool.not_eq_false, beq_iff_eq, Int.not_lt, Int.not_le] at hc3
    refine hw_skip ?_
    refine thenQ_n ?_
    refine hw_seq ?_
    refine hw_region ?_
    refine hl_v (v_move rfl) rfl ?_
    refine hl_h (h_call Try.call56 (evs_cons rfl evs_nil) (classes_spec (by first | assumption | exact Ow.sl0 (by assumption)) (by first | assumption | exact fun _ h => h | exact fun b hb => (Ow.lt (by assumption) b hb).2 | (intro b hb; have hSb := hS b hb; omega)))) rfl ?_
    rintro n5v H4 ⟨n5o, n5⟩
    have n5s := n5.size
    replace hx0 := Ext.trans hx0 n5
    replace hs := Sl.ext0 hs n5
    refine hl_v (v_assign rfl) rfl ?_
    refine hl_v (v_assign rfl) rfl ?_
    refine hl_nil ?_
    refine thenQ_n ?_
    refine hw_sub _ (ai_cons (t := 2) rfl (ai_cons (t := 3) rfl ai_nil)) ?_
    refine hw_ret ?_
    refine ret_i _ (ra_t rfl (ra_t rfl ra_nil)) ?_
    rw [hc3]
    exact ⟨_, rfl, n5o.base (by have := hx0.size; omega), hx0⟩

theorem rParts_spec {v0 : Value} {l : List BSet} {S : Nat → Prop} {H : Heap} (hs : Sl fSet.rep H S v0 l) (hS : ∀ b, S b → b < H.size) : HC Try.prog 29 [v0] H (fun v H' => ∃ u, v = .tuple #[u, .int .i64 (if l.length ≤ 1024 then 0 else 2)] ∧ Ow fSet H' H.size 31 u (if l.length ≤ 1024 then parts l else []) ∧ Ext [] H H') := by
  have hx0 : Ext [] H H := Ext.refl _
  refine hc_of_hw (N := 12) (rs := [(.tmp 2), (.tmp 3)]) Try.func29 rfl rfl rfl rfl ?_
  refine hw_seq ?_
  refine hw_region ?_
  refine hl_v (v_assign rfl) rfl ?_
  refine hl_v (v_assign rfl) rfl ?_
  refine hl_nil ?_
  refine thenQ_n ?_
  refine hw_sub _ (ai_cons (t := 0) rfl ai_nil) ?_
  refine hw_seq ?_
  refine hw_seq ?_
  refine hw_region ?_
  refine hl_v (v_move rfl) rfl ?_
  refine hl_v (v_lenL rfl Try.underlying48 rfl (by first | assumption | exact Ow.sl0 (by assumption))) rfl ?_
  refine hl_v (v_gtr rfl rfl) rfl ?_
  refine hl_nil ?_
  refine thenQ_n ?_
  refine hw_sub _ (ai_cons (t := 0) rfl (ai_cons (t := 6) rfl ai_nil)) ?_
  refine hw_cond rfl (fun hc1 => ?_) (fun hc1 => ?_)
  · try simp only [decide_eq_true_eq, decide_eq_false_iff_not, Bool.and_eq_true, Bool.and_eq_false_iff, Bool.or_eq_true, Bool.or_eq_false_iff, Bool.not_eq_true', Bool.not_eq_false', Bool.not_eq_true, Bool.not_eq_false, beq_iff_eq, Int.not_lt, Int.not_le] at hc1
    refine hw_seq ?_
    refine hw_region ?_
    refine hl_v (v_assign rfl) rfl ?_
    refine hl_v (v_assign rfl) rfl ?_
    refine hl_nil ?_
    refine thenQ_n ?_
    refine hw_sub _ (ai_cons (t := 2) rfl (ai_cons (t := 3) rfl ai_nil)) ?_
    refine hw_ret ?_
    refine thenQ_r ?_
    refine ret_i _ (ra_t rfl (ra_t rfl ra_nil)) ?_
    rw [if_neg (show ¬ l.length ≤ 1024 by omega), if_neg (show ¬ l.length ≤ 1024 by omega)]
    exact ⟨_, rfl, Ow.nil, hx0⟩
  · try simp only [decide_eq_true_eq, decide_eq_false_iff_not, Bool.and_eq_true, Bool.and_eq_false_iff, Bool.or_eq_true, Bool.or_eq_false_iff, Bool.not_eq_true', Bool.not_eq_false', Bool.not_eq_true, Bool.not_eq_false, beq_iff_eq, Int.not_lt, Int.not_le] at hc1
    refine hw_skip ?_
    refine thenQ_n ?_
    refine hw_seq ?_
    refine hw_region ?_
    refine hl_v (v_move rfl) rfl ?_
    refine hl_h (h_call Try.call56 (evs_cons rfl evs_nil) (classes_spec (by first | assumption | exact Ow.sl0 (by assumption)) (by first | assumption | exact fun _ h => h | exact fun b hb => (Ow.lt (by assumption) b hb).2 | (intro b hb; have hSb := hS b hb; omega)))) rfl ?_
    rintro n3v H2 ⟨n3o, n3⟩
    have n3s := n3.size
    replace hx0 := Ext.trans hx0 n3
    replace hs := Sl.ext0 hs n3
    refine hl_h (h_call Try.call45 (evs_cons rfl evs_nil) (rSets_spec (by first | assumption | exact Ow.sl0 (by assumption)) (by first | assumption | exact fun _ h => h | exact fun b hb => (Ow.lt (by assumption) b hb).2 | (intro b hb; have hSb := hS b hb; omega)))) rfl ?_
    rintro _ H4 ⟨n5u, rfl, n5o, n5⟩
    have n5s := n5.size
    replace hx0 := Ext.trans hx0 n5
    replace hs := Sl.ext0 hs n5
    replace n3o := Ow.ext0 n3o n5
    refine hl_v (v_extract rfl rfl) rfl ?_
    refine hl_v (v_extract rfl rfl) rfl ?_
    refine hl_v (v_assign rfl) rfl ?_
    refine hl_v (v_assign rfl) rfl ?_
    refine hl_nil ?_
    refine thenQ_n ?_
    refine hw_sub _ (ai_cons (t := 2) rfl (ai_cons (t := 3) rfl ai_nil)) ?_
    refine hw_ret ?_
    refine ret_i _ (ra_t rfl (ra_t rfl ra_nil)) ?_
    rw [if_pos (show l.length ≤ 1024 by omega), if_pos (show l.length ≤ 1024 by omega)]
    rw [okB_cls] at n5o ⊢
    exact ⟨_, rfl, n5o.base (by omega), hx0⟩

theorem rOver_spec {v0 : Value} {l : List BSet} {S : Nat → Prop} {H : Heap} (hs : Sl fSet.rep H S v0 l) (hS : ∀ b, S b → b < H.size) {s : BSet} : HC Try.prog 47 [v0, sv s] H (fun v H' => ∃ u, v = .tuple #[u, .int .i64 (if (overB l s).isSome then 0 else 1)] ∧ Ow fNat H' H.size 3 u ((overB l s).getD []) ∧ Ext [] H H') := by
  have hx0 : Ext [] H H := Ext.refl _
  have hcap := hs.cap
  refine hc_of_hw (N := 38) (rs := [(.tmp 4), (.tmp 5)]) Try.func47 rfl rfl rfl rfl ?_
  refine hw_seq ?_
  refine hw_region ?_
  refine hl_h (h_boxS rfl) rfl ?_
  rintro _ H1 ⟨rfl, n2⟩
  have n2s := n2.size
  replace hx0 := Ext.trans hx0 n2.ext
  replace hs := Sl.ext0 hs n2.ext
  have n2b := n2.blk
  refine hl_v (v_assign rfl) rfl ?_
  refine hl_v (v_assign rfl) rfl ?_
  refine hl_nil ?_
  refine thenQ_n ?_
  refine hw_sub _ (ai_cons (t := 0) rfl (ai_cons (t := 3) rfl ai_nil)) ?_
  refine hw_seq ?_
  refine hw_seq ?_
  refine hw_region ?_
  refine hl_v (v_move rfl) rfl ?_
  refine hl_h (h_call Try.call57 (evs_cons rfl evs_nil) (Right_spec (by first | assumption | exact Ow.sl0 (by assumption)) (by first | assumption | exact fun _ h => h | exact fun b hb => (Ow.lt (by assumption) b hb).2 | (intro b hb; have hSb := hS b hb; omega)))) rfl ?_
  rintro _ H3 ⟨rfl, n4⟩
  have n4s := n4.size
  replace hx0 := Ext.trans hx0 n4
  replace hs := Sl.ext0 hs n4
  replace n2b := Ext.blk n4 n2b (by simp)
  refine hl_v (v_not rfl) rfl ?_
  refine hl_nil ?_
  refine thenQ_n ?_
  refine hw_sub _ (ai_cons (t := 0) rfl (ai_cons (t := 3) rfl (ai_cons (t := 11) rfl ai_nil))) ?_
  refine hw_cond rfl (fun hc5 => ?_) (fun hc5 => ?_)
  · try simp only [decide_eq_true_eq, decide_eq_false_iff_not, Bool.and_eq_true, Bool.and_eq_false_iff, Bool.or_eq_true, Bool.or_eq_false_iff, Bool.not_eq_true', Bool.not_eq_false', Bool.not_eq_true, Bool.not_eq_false, beq_iff_eq, Int.not_lt, Int.not_le] at hc5
    refine hw_seq ?_
    refine hw_region ?_
    refine hl_v (v_assign rfl) rfl ?_
    refine hl_v (v_assign rfl) rfl ?_
    refine hl_nil ?_
    refine thenQ_n ?_
    refine hw_sub _ (ai_cons (t := 4) rfl (ai_cons (t := 5) rfl ai_nil)) ?_
    refine hw_ret ?_
    refine thenQ_r ?_
    refine ret_i _ (ra_t rfl (ra_t rfl ra_nil)) ?_
    rw [overB_not hc5]
    exact ⟨_, rfl, Ow.nil, hx0⟩
  · try simp only [decide_eq_true_eq, decide_eq_false_iff_not, Bool.and_eq_true, Bool.and_eq_false_iff, Bool.or_eq_true, Bool.or_eq_false_iff, Bool.not_eq_true', Bool.not_eq_false', Bool.not_eq_true, Bool.not_eq_false, beq_iff_eq, Int.not_lt, Int.not_le] at hc5
    refine hw_skip ?_
    refine thenQ_n ?_
    refine hw_seq ?_
    have hrl := right_len hc5
    refine hw_region ?_
    refine hl_v (v_assign rfl) rfl ?_
    refine hl_nil ?_
    refine thenQ_n ?_
    refine hw_sub _ (ai_cons (t := 0) rfl (ai_cons (t := 3) rfl (ai_cons (t := 6) rfl ai_nil))) ?_
    refine hw_seq ?_
    refine hw_seq ?_
    refine hw_region ?_
    refine hl_v (v_assign rfl) rfl ?_
    refine hl_nil ?_
    refine thenQ_n ?_
    refine hw_sub _ (ai_cons (t := 0) rfl (ai_cons (t := 3) rfl (ai_cons (t := 6) rfl (ai_cons (t := 7) rfl ai_nil)))) ?_
    refine hw_block ?_
    refine hw_loop (α := Nat × Value × List Nat) [(0, _), (3, _)] (fun x => [(6, x.2.1), (7, .int .i64 (x.1 : Int))]) (fun x G5 => Ext [] H G5 ∧ Sl fSet.rep G5 S v0 l ∧ Blk G5 H.size (sw s) 31 ∧ Ow fNat G5 H1.size 3 x.2.1 x.2.2 ∧ H1.size ≤ G5.size ∧ x.1 ≤ l.length ∧ overK l s x.1 = some x.2.2) (fun x => l.length - x.1) (0, .slice none 0 0, []) (ai_cons (t := 6) rfl (ai_cons (t := 7) rfl (ai_cons (t := 0) rfl (ai_cons (t := 3) rfl ai_nil)))) ?_ ?_
    · exact ⟨hx0, hs, n2b, Ow.nil, (by omega), ⟨Nat.zero_le _, rfl⟩⟩
    · intro x G5 hI
      obtain ⟨hx0, hs, n2b, ow, hz, ⟨hk, hov⟩⟩ := hI
      have hx0z := hx0.size
      have hol := overK_len hov
      refine hw_seq ?_
      refine hw_seq ?_
      refine hw_region ?_
      refine hl_v (v_move rfl) rfl ?_
      refine hl_v (v_move rfl) rfl ?_
      refine hl_v (v_lenL rfl Try.underlying48 rfl (by first | assumption | exact Ow.sl0 (by assumption))) rfl ?_
      refine hl_v (v_lss rfl rfl) rfl ?_
      refine hl_nil ?_
      refine thenQ_n ?_
      refine hw_sub _ (ai_cons (t := 0) rfl (ai_cons (t := 3) rfl (ai_cons (t := 6) rfl (ai_cons (t := 7) rfl (ai_cons (t := 15) rfl ai_nil))))) ?_
      refine hw_cond rfl (fun hc6 => ?_) (fun hc6 => ?_)
      · try simp only [decide_eq_true_eq, decide_eq_false_iff_not, Bool.and_eq_true, Bool.and_eq_false_iff, Bool.or_eq_true, Bool.or_eq_false_iff, Bool.not_eq_true', Bool.not_eq_false', Bool.not_eq_true, Bool.not_eq_false, beq_iff_eq, Int.not_lt, Int.not_le] at hc6
        refine hw_skip ?_
        refine thenQ_n ?_
        refine hw_seq ?_
        refine hw_block ?_
        refine hw_seq ?_
        have howlt : ∀ b, b ∈ mb x.2.1 → b < G5.size := fun b hb => (Ow.lt ow b hb).2
        refine hw_held2 7 (fun H' => Ext [] G5 H') (.step 0 false (.step 1 false (.step 2 false (.step 3 false (.step 4 false (.two 5 6 (.step 6 true .done) (.step 5 true .done))))))) (.step 7 true .done) Try.mixed (by kernel_rfl) ?_ ?_
        · exact Ext.refl _
        have xr7 : Ext [] G5 G5 := Ext.refl _
        have hsR := hs
        have n2bR := n2b
        have owR := ow
        refine hd_v rfl (fun H' hS => (v_move rfl)) rfl ?_
        refine hd_v rfl (fun H' hS => (v_move rfl)) rfl ?_
        refine hd_v rfl (fun H' hS => (v_ixL Try.underlying48 Try.sizeOf31 rfl rfl (by first | assumption | exact Ow.sl0 (by assumption) | exact Sl.ext0 (by assumption) hS | exact Sl.ext0 (Ow.sl0 (by assumption)) hS) (by first | omega | assumption | (simp only [Int.toNat_natCast]; omega) | (simp; done) | (simp at *; omega)))) rfl ?_
        refine hd_v rfl (fun H' hS => (v_loadFl Try.isAgg31 Try.sizeOf31 rfl (by first | assumption | exact Ow.sl0 (by assumption) | exact Sl.ext0 (by assumption) hS | exact Sl.ext0 (Ow.sl0 (by assumption)) hS) rfl (by first | omega | assumption | (simp only [Int.toNat_natCast]; omega) | (simp; done) | (simp at *; omega)))) rfl ?_
        refine hd_v rfl (fun H' hS => (v_loadS Try.isAgg31 Try.sizeOf31 rfl (by first | exact Ext.blk hS n2bR (by simp) | exact n2b | exact Ext.blk hS (by first | assumption | exact Ext.blk hS (by assumption) (by simp) | exact Sl.ext0 (by assumption) hS | exact Sl.ext0 (Ow.sl0 (by assumption)) hS) (by simp)))) rfl ?_
        refine hd_two ?_ ?_
        · skip
          refine hd_h (h_call Try.call41 (evs_cons rfl (evs_cons rfl (evs_cons rfl evs_nil))) (By_spec)) (fun _ _ hR => Ext.trans xr7 (hR.2)) rfl ?_
          rintro _ H8 ⟨rfl, n9⟩
          have n9s := n9.size
          replace hx0 := Ext.trans hx0 n9
          replace hs := Sl.ext0 hs n9
          replace n2b := Ext.blk n9 n2b (by simp)
          replace ow := Ow.ext0 ow n9
          replace xr7 := Ext.trans xr7 n9
          refine hd_h (h_allocS Try.zeroValue31) (fun _ _ hR => Ext.trans xr7 (hR.2.ext)) rfl ?_
          rintro _ H10 ⟨rfl, n11⟩
          have n11s := n11.size
          replace hx0 := Ext.trans hx0 n11.ext
          replace hs := Sl.ext0 hs n11.ext
          replace n2b := Ext.blk n11.ext n2b (by simp)
          replace ow := Ow.ext0 ow n11.ext
          have n11b := n11.blk
          replace xr7 := Ext.trans xr7 n11.ext
          refine hd_nil ?_
          refine hd_s (h_storeS Try.sizeOf31 rfl rfl n11b) (fun _ _ _ => trivial) ?_
          rintro _ H12 p13
          have p13s := p13.size
          replace hx0 := Ext.fresh hx0 p13.ext (by intro b hb; simp at hb; omega)
          replace hs := Sl.ext hs p13.ext (by intro b hb; (try have hSb := hS b hb); (try simp only [mb, List.mem_singleton] at hb); simp; (try have hsp := howlt _ hb); (try have hsq := howlt _ hm); omega)
          replace n2b := Ext.blk p13.ext n2b (by (try simp only [mb, List.mem_singleton] at hb); simp; (try have hsp := howlt _ hb); (try have hsq := howlt _ hm); omega)
          replace ow := Ow.ext ow p13.ext (by intro b hb; have hlb := Ow.lt ow b hb; (try simp only [mb, List.mem_singleton] at hb); simp; (try have hsp := howlt _ hb); (try have hsq := howlt _ hm); omega)
          replace n11b := p13.blk
          refine hd_nil ?_
          refine thenQ_n ?_
          refine hw_sub _ (ai_cons (t := 0) rfl (ai_cons (t := 3) rfl (ai_cons (t := 6) rfl (ai_cons (t := 7) rfl (ai_cons (t := 8) rfl ai_nil))))) ?_
          refine hw_seq ?_
          refine hw_quiet Try.mixed (by kernel_rfl) ?_
          refine hq_v (v_loadS Try.isAgg31 Try.sizeOf31 rfl (by first | exact n11b | assumption)) rfl ?_
          refine hq_v (v_move rfl) rfl ?_
          refine hq_v (v_move rfl) rfl ?_
          refine hq_v (v_ixL Try.underlying48 Try.sizeOf31 rfl rfl (by first | assumption | exact Ow.sl0 (by assumption)) (by first | omega | assumption | (simp only [Int.toNat_natCast]; omega) | (simp; done) | (simp at *; omega))) rfl ?_
          refine hq_v (v_loadFl Try.isAgg31 Try.sizeOf31 rfl (by first | assumption | exact Ow.sl0 (by assumption)) rfl (by first | omega | assumption | (simp only [Int.toNat_natCast]; omega) | (simp; done) | (simp at *; omega))) rfl ?_
          refine hq_v (v_eqlSet Try.underlying31 Try.underlying29 Try.sizeOf29 (by kernel_rfl) rfl rfl) rfl ?_
          refine hq_nil ?_
          refine thenQ_n ?_
          refine hw_sub _ (ai_cons (t := 0) rfl (ai_cons (t := 3) rfl (ai_cons (t := 6) rfl (ai_cons (t := 7) rfl (ai_cons (t := 8) rfl (ai_cons (t := 29) rfl ai_nil)))))) ?_
          refine hw_cond rfl (fun hc14 => ?_) (fun hc14 => ?_)
          · try simp only [decide_eq_true_eq, decide_eq_false_iff_not, Bool.and_eq_true, Bool.and_eq_false_iff, Bool.or_eq_true, Bool.or_eq_false_iff, Bool.not_eq_true', Bool.not_eq_false', Bool.not_eq_true, Bool.not_eq_false, beq_iff_eq, Int.not_lt, Int.not_le] at hc14
            try rw [← BSet.by0] at hc14
            refine hw_region ?_
            refine hl_v (v_move rfl) rfl ?_
            refine hl_v (v_move rfl) rfl ?_
            refine hl_h (h_buildSlice (xs := [.tmp 31]) Try.underlying51 Try.sizeOf3 Try.zeroValue3 rfl (evs_cons rfl evs_nil) rfl (by decide) (by decide) (by intro v hv; simp only [List.mem_cons, List.not_mem_nil, or_false] at hv; rcases hv with rfl <;> rfl)) rfl ?_
            rintro _ H15 ⟨rfl, n16⟩
            have n16s := n16.size
            replace hx0 := Ext.trans hx0 n16.ext
            replace hs := Sl.ext0 hs n16.ext
            replace n2b := Ext.blk n16.ext n2b (by simp)
            replace ow := Ow.ext0 ow n16.ext
            replace n11b := Ext.blk n16.ext n11b (by simp)
            have n16o := Ow.new (g := fNat) (l := [_]) (B := H12.size) n16 rfl (by omega) (by simp)
            refine hl_h (h_append (g := fNat) (B := _) rfl Try.underlying51 Try.type3 rfl rfl rfl rfl (by decide) rfl rfl ow (by first | assumption | exact Ow.sl0 (by assumption)) (by first | (rw [show Try.t3.bytes = 8 from rfl]; simp only [List.length_append, List.length_cons, List.length_nil]; omega) | (rw [show Try.t3.bytes = 8 from rfl]; omega) | omega | (simp only [List.length_append, List.length_cons, List.length_nil]; omega) | assumption | (simp; done)) (by first | (rw [show Try.t3.bytes = 8 from rfl]; simp only [List.length_append, List.length_cons, List.length_nil]; omega) | (rw [show Try.t3.bytes = 8 from rfl]; omega) | omega | (simp only [List.length_append, List.length_cons, List.length_nil]; omega) | assumption | (simp; done)) (by first | (rw [show Try.t3.bytes = 8 from rfl]; simp only [List.length_append, List.length_cons, List.length_nil]; omega) | (rw [show Try.t3.bytes = 8 from rfl]; omega) | omega | (simp only [List.length_append, List.length_cons, List.length_nil]; omega) | assumption | (simp; done))) rfl ?_
            rintro v19 H17 ⟨a18o, a18x, a18n, a18b⟩
            have a18s := a18x.size
            replace hx0 := Ext.fresh hx0 a18x (by intro b hb; exact Or.inl (Nat.le_trans (by omega) (Ow.lt ow b hb).1))
            replace hs := Sl.ext hs a18x (by intro b hb; (try have hSb := hS b hb); intro hm; have hlt := Ow.lt ow _ hm; (try simp only [mb, List.mem_singleton] at hb); (try simp only [mb, List.mem_singleton] at hm); (try have hsp := howlt _ hb); (try have hsq := howlt _ hm); omega)
            replace n2b := Ext.blk a18x n2b (by intro hm; have hlt := Ow.lt ow _ hm; (try simp only [mb, List.mem_singleton] at hb); (try simp only [mb, List.mem_singleton] at hm); (try have hsp := howlt _ hb); (try have hsq := howlt _ hm); omega)
            replace n11b := Ext.blk a18x n11b (by intro hm; have hlt := Ow.lt ow _ hm; (try simp only [mb, List.mem_singleton] at hb); (try simp only [mb, List.mem_singleton] at hm); (try have hsp := howlt _ hb); (try have hsq := howlt _ hm); omega)
            refine hl_v (v_assign rfl) rfl ?_
            refine hl_nil ?_
            refine blockQ_n ?_
            refine thenQ_n ?_
            refine hw_region ?_
            refine hl_v (v_move rfl) rfl ?_
            refine hl_v (v_add rfl rfl (by first | omega | assumption | (simp only [Int.toNat_natCast]; omega) | (simp; done) | (simp at *; omega))) rfl ?_
            refine hl_v (v_assign rfl) rfl ?_
            refine hl_nil ?_
            refine thenQ_n ?_
            refine ⟨(x.1 + 1, _, x.2.2 ++ [x.1]), (ai_cons (t := 6) rfl (ai_cons (t := 7) rfl (ai_cons (t := 0) rfl (ai_cons (t := 3) rfl ai_nil)))), ?_, ?_⟩
            · skip
              exact ⟨hx0, hs, n2b, a18o, (by omega), ⟨by omega, over_yes hov (by assumption)⟩⟩
            · omega
          · try simp only [decide_eq_true_eq, decide_eq_false_iff_not, Bool.and_eq_true, Bool.and_eq_false_iff, Bool.or_eq_true, Bool.or_eq_false_iff, Bool.not_eq_true', Bool.not_eq_false', Bool.not_eq_true, Bool.not_eq_false, beq_iff_eq, Int.not_lt, Int.not_le] at hc14
            try rw [← BSet.by0] at hc14
            refine hw_seq ?_
            refine hw_region ?_
            refine hl_v (v_loadS Try.isAgg31 Try.sizeOf31 rfl (by first | exact n11b | assumption)) rfl ?_
            refine hl_v (v_buildS0 Try.underlying31 Try.zeroValue31 Try.sizeOf29) rfl ?_
            refine hl_v (v_neqSet Try.underlying31 Try.underlying29 Try.sizeOf29 (by kernel_rfl) rfl rfl) rfl ?_
            refine hl_nil ?_
            refine thenQ_n ?_
            refine hw_sub _ (ai_cons (t := 0) rfl (ai_cons (t := 3) rfl (ai_cons (t := 6) rfl (ai_cons (t := 7) rfl (ai_cons (t := 36) rfl ai_nil))))) ?_
            refine hw_cond rfl (fun hc20 => ?_) (fun hc20 => ?_)
            · try simp only [decide_eq_true_eq, decide_eq_false_iff_not, Bool.and_eq_true, Bool.and_eq_false_iff, Bool.or_eq_true, Bool.or_eq_false_iff, Bool.not_eq_true', Bool.not_eq_false', Bool.not_eq_true, Bool.not_eq_false, beq_iff_eq, Int.not_lt, Int.not_le] at hc20
              try rw [← BSet.by0] at hc20
              refine hw_seq ?_
              refine hw_region ?_
              refine hl_v (v_assign rfl) rfl ?_
              refine hl_v (v_assign rfl) rfl ?_
              refine hl_nil ?_
              refine thenQ_n ?_
              refine hw_sub _ (ai_cons (t := 4) rfl (ai_cons (t := 5) rfl ai_nil)) ?_
              refine hw_ret ?_
              refine blockQ_r ?_
              refine thenQ_r ?_
              refine thenQ_r ?_
              refine blockQ_r ?_
              refine thenQ_r ?_
              refine ret_i _ (ra_t rfl (ra_t rfl ra_nil)) ?_
              rw [over_bad (by omega) hov (by assumption) (by assumption)]
              exact ⟨_, rfl, Ow.nil, hx0⟩
            · try simp only [decide_eq_true_eq, decide_eq_false_iff_not, Bool.and_eq_true, Bool.and_eq_false_iff, Bool.or_eq_true, Bool.or_eq_false_iff, Bool.not_eq_true', Bool.not_eq_false', Bool.not_eq_true, Bool.not_eq_false, beq_iff_eq, Int.not_lt, Int.not_le] at hc20
              try rw [← BSet.by0] at hc20
              refine hw_skip ?_
              refine blockQ_n ?_
              refine thenQ_n ?_
              refine hw_region ?_
              refine hl_v (v_move rfl) rfl ?_
              refine hl_v (v_add rfl rfl (by first | omega | assumption | (simp only [Int.toNat_natCast]; omega) | (simp; done) | (simp at *; omega))) rfl ?_
              refine hl_v (v_assign rfl) rfl ?_
              refine hl_nil ?_
              refine thenQ_n ?_
              refine ⟨(x.1 + 1, x.2.1, x.2.2), (ai_cons (t := 6) rfl (ai_cons (t := 7) rfl (ai_cons (t := 0) rfl (ai_cons (t := 3) rfl ai_nil)))), ?_, ?_⟩
              · skip
                exact ⟨hx0, hs, n2b, ow, (by omega), ⟨by omega, over_no hov (by assumption) (by assumption)⟩⟩
              · omega
        · skip
          refine hd_h (h_allocS Try.zeroValue31) (fun _ _ hR => Ext.trans xr7 (hR.2.ext)) rfl ?_
          rintro _ H21 ⟨rfl, n22⟩
          have n22s := n22.size
          replace hx0 := Ext.trans hx0 n22.ext
          replace hs := Sl.ext0 hs n22.ext
          replace n2b := Ext.blk n22.ext n2b (by simp)
          replace ow := Ow.ext0 ow n22.ext
          have n22b := n22.blk
          replace xr7 := Ext.trans xr7 n22.ext
          refine hd_h (h_call Try.call41 (evs_cons rfl (evs_cons rfl (evs_cons rfl evs_nil))) (By_spec)) (fun _ _ hR => Ext.trans xr7 (hR.2)) rfl ?_
          rintro _ H23 ⟨rfl, n24⟩
          have n24s := n24.size
          replace hx0 := Ext.trans hx0 n24
          replace hs := Sl.ext0 hs n24
          replace n2b := Ext.blk n24 n2b (by simp)
          replace ow := Ow.ext0 ow n24
          replace n22b := Ext.blk n24 n22b (by simp)
          replace xr7 := Ext.trans xr7 n24
          refine hd_nil ?_
          refine hd_s (h_storeS Try.sizeOf31 rfl rfl n22b) (fun _ _ _ => trivial) ?_
          rintro _ H25 p26
          have p26s := p26.size
          replace hx0 := Ext.fresh hx0 p26.ext (by intro b hb; simp at hb; omega)
          replace hs := Sl.ext hs p26.ext (by intro b hb; (try have hSb := hS b hb); (try simp only [mb, List.mem_singleton] at hb); simp; (try have hsp := howlt _ hb); (try have hsq := howlt _ hm); omega)
          replace n2b := Ext.blk p26.ext n2b (by (try simp only [mb, List.mem_singleton] at hb); simp; (try have hsp := howlt _ hb); (try have hsq := howlt _ hm); omega)
          replace ow := Ow.ext ow p26.ext (by intro b hb; have hlb := Ow.lt ow b hb; (try simp only [mb, List.mem_singleton] at hb); simp; (try have hsp := howlt _ hb); (try have hsq := howlt _ hm); omega)
          replace n22b := p26.blk
          refine hd_nil ?_
          refine thenQ_n ?_
          refine hw_sub _ (ai_cons (t := 0) rfl (ai_cons (t := 3) rfl (ai_cons (t := 6) rfl (ai_cons (t := 7) rfl (ai_cons (t := 8) rfl ai_nil))))) ?_
          refine hw_seq ?_
          refine hw_quiet Try.mixed (by kernel_rfl) ?_
          refine hq_v (v_loadS Try.isAgg31 Try.sizeOf31 rfl (by first | exact n22b | assumption)) rfl ?_
          refine hq_v (v_move rfl) rfl ?_
          refine hq_v (v_move rfl) rfl ?_
          refine hq_v (v_ixL Try.underlying48 Try.sizeOf31 rfl rfl (by first | assumption | exact Ow.sl0 (by assumption)) (by first | omega | assumption | (simp only [Int.toNat_natCast]; omega) | (simp; done) | (simp at *; omega))) rfl ?_
          refine hq_v (v_loadFl Try.isAgg31 Try.sizeOf31 rfl (by first | assumption | exact Ow.sl0 (by assumption)) rfl (by first | omega | assumption | (simp only [Int.toNat_natCast]; omega) | (simp; done) | (simp at *; omega))) rfl ?_
          refine hq_v (v_eqlSet Try.underlying31 Try.underlying29 Try.sizeOf29 (by kernel_rfl) rfl rfl) rfl ?_
          refine hq_nil ?_
          refine thenQ_n ?_
          refine hw_sub _ (ai_cons (t := 0) rfl (ai_cons (t := 3) rfl (ai_cons (t := 6) rfl (ai_cons (t := 7) rfl (ai_cons (t := 8) rfl (ai_cons (t := 29) rfl ai_nil)))))) ?_
          refine hw_cond rfl (fun hc27 => ?_) (fun hc27 => ?_)
          · try simp only [decide_eq_true_eq, decide_eq_false_iff_not, Bool.and_eq_true, Bool.and_eq_false_iff, Bool.or_eq_true, Bool.or_eq_false_iff, Bool.not_eq_true', Bool.not_eq_false', Bool.not_eq_true, Bool.not_eq_false, beq_iff_eq, Int.not_lt, Int.not_le] at hc27
            try rw [← BSet.by0] at hc27
            refine hw_region ?_
            refine hl_v (v_move rfl) rfl ?_
            refine hl_v (v_move rfl) rfl ?_
            refine hl_h (h_buildSlice (xs := [.tmp 31]) Try.underlying51 Try.sizeOf3 Try.zeroValue3 rfl (evs_cons rfl evs_nil) rfl (by decide) (by decide) (by intro v hv; simp only [List.mem_cons, List.not_mem_nil, or_false] at hv; rcases hv with rfl <;> rfl)) rfl ?_
            rintro _ H28 ⟨rfl, n29⟩
            have n29s := n29.size
            replace hx0 := Ext.trans hx0 n29.ext
            replace hs := Sl.ext0 hs n29.ext
            replace n2b := Ext.blk n29.ext n2b (by simp)
            replace ow := Ow.ext0 ow n29.ext
            replace n22b := Ext.blk n29.ext n22b (by simp)
            have n29o := Ow.new (g := fNat) (l := [_]) (B := H25.size) n29 rfl (by omega) (by simp)
            refine hl_h (h_append (g := fNat) (B := _) rfl Try.underlying51 Try.type3 rfl rfl rfl rfl (by decide) rfl rfl ow (by first | assumption | exact Ow.sl0 (by assumption)) (by first | (rw [show Try.t3.bytes = 8 from rfl]; simp only [List.length_append, List.length_cons, List.length_nil]; omega) | (rw [show Try.t3.bytes = 8 from rfl]; omega) | omega | (simp only [List.length_append, List.length_cons, List.length_nil]; omega) | assumption | (simp; done)) (by first | (rw [show Try.t3.bytes = 8 from rfl]; simp only [List.length_append, List.length_cons, List.length_nil]; omega) | (rw [show Try.t3.bytes = 8 from rfl]; omega) | omega | (simp only [List.length_append, List.length_cons, List.length_nil]; omega) | assumption | (simp; done)) (by first | (rw [show Try.t3.bytes = 8 from rfl]; simp only [List.length_append, List.length_cons, List.length_nil]; omega) | (rw [show Try.t3.bytes = 8 from rfl]; omega) | omega | (simp only [List.length_append, List.length_cons, List.length_nil]; omega) | assumption | (simp; done))) rfl ?_
            rintro v32 H30 ⟨a31o, a31x, a31n, a31b⟩
            have a31s := a31x.size
            replace hx0 := Ext.fresh hx0 a31x (by intro b hb; exact Or.inl (Nat.le_trans (by omega) (Ow.lt ow b hb).1))
            replace hs := Sl.ext hs a31x (by intro b hb; (try have hSb := hS b hb); intro hm; have hlt := Ow.lt ow _ hm; (try simp only [mb, List.mem_singleton] at hb); (try simp only [mb, List.mem_singleton] at hm); (try have hsp := howlt _ hb); (try have hsq := howlt _ hm); omega)
            replace n2b := Ext.blk a31x n2b (by intro hm; have hlt := Ow.lt ow _ hm; (try simp only [mb, List.mem_singleton] at hb); (try simp only [mb, List.mem_singleton] at hm); (try have hsp := howlt _ hb); (try have hsq := howlt _ hm); omega)
            replace n22b := Ext.blk a31x n22b (by intro hm; have hlt := Ow.lt ow _ hm; (try simp only [mb, List.mem_singleton] at hb); (try simp only [mb, List.mem_singleton] at hm); (try have hsp := howlt _ hb); (try have hsq := howlt _ hm); omega)
            refine hl_v (v_assign rfl) rfl ?_
            refine hl_nil ?_
            refine blockQ_n ?_
            refine thenQ_n ?_
            refine hw_region ?_
            refine hl_v (v_move rfl) rfl ?_
            refine hl_v (v_add rfl rfl (by first | omega | assumption | (simp only [Int.toNat_natCast]; omega) | (simp; done) | (simp at *; omega))) rfl ?_
            refine hl_v (v_assign rfl) rfl ?_
            refine hl_nil ?_
            refine thenQ_n ?_
            refine ⟨(x.1 + 1, _, x.2.2 ++ [x.1]), (ai_cons (t := 6) rfl (ai_cons (t := 7) rfl (ai_cons (t := 0) rfl (ai_cons (t := 3) rfl ai_nil)))), ?_, ?_⟩
            · skip
              exact ⟨hx0, hs, n2b, a31o, (by omega), ⟨by omega, over_yes hov (by assumption)⟩⟩
            · omega
          · try simp only [decide_eq_true_eq, decide_eq_false_iff_not, Bool.and_eq_true, Bool.and_eq_false_iff, Bool.or_eq_true, Bool.or_eq_false_iff, Bool.not_eq_true', Bool.not_eq_false', Bool.not_eq_true, Bool.not_eq_false, beq_iff_eq, Int.not_lt, Int.not_le] at hc27
            try rw [← BSet.by0] at hc27
            refine hw_seq ?_
            refine hw_region ?_
            refine hl_v (v_loadS Try.isAgg31 Try.sizeOf31 rfl (by first | exact n22b | assumption)) rfl ?_
            refine hl_v (v_buildS0 Try.underlying31 Try.zeroValue31 Try.sizeOf29) rfl ?_
            refine hl_v (v_neqSet Try.underlying31 Try.underlying29 Try.sizeOf29 (by kernel_rfl) rfl rfl) rfl ?_
            refine hl_nil ?_
            refine thenQ_n ?_
            refine hw_sub _ (ai_cons (t := 0) rfl (ai_cons (t := 3) rfl (ai_cons (t := 6) rfl (ai_cons (t := 7) rfl (ai_cons (t := 36) rfl ai_nil))))) ?_
            refine hw_cond rfl (fun hc33 => ?_) (fun hc33 => ?_)
            · try simp only [decide_eq_true_eq, decide_eq_false_iff_not, Bool.and_eq_true, Bool.and_eq_false_iff, Bool.or_eq_true, Bool.or_eq_false_iff, Bool.not_eq_true', Bool.not_eq_false', Bool.not_eq_true, Bool.not_eq_false, beq_iff_eq, Int.not_lt, Int.not_le] at hc33
              try rw [← BSet.by0] at hc33
              refine hw_seq ?_
              refine hw_region ?_
              refine hl_v (v_assign rfl) rfl ?_
              refine hl_v (v_assign rfl) rfl ?_
              refine hl_nil ?_
              refine thenQ_n ?_
              refine hw_sub _ (ai_cons (t := 4) rfl (ai_cons (t := 5) rfl ai_nil)) ?_
              refine hw_ret ?_
              refine blockQ_r ?_
              refine thenQ_r ?_
              refine thenQ_r ?_
              refine blockQ_r ?_
              refine thenQ_r ?_
              refine ret_i _ (ra_t rfl (ra_t rfl ra_nil)) ?_
              rw [over_bad (by omega) hov (by assumption) (by assumption)]
              exact ⟨_, rfl, Ow.nil, hx0⟩
            · try simp only [decide_eq_true_eq, decide_eq_false_iff_not, Bool.and_eq_true, Bool.and_eq_false_iff, Bool.or_eq_true, Bool.or_eq_false_iff, Bool.not_eq_true', Bool.not_eq_false', Bool.not_eq_true, Bool.not_eq_false, beq_iff_eq, Int.not_lt, Int.not_le] at hc33
              try rw [← BSet.by0] at hc33
              refine hw_skip ?_
              refine blockQ_n ?_
              refine thenQ_n ?_
              refine hw_region ?_
              refine hl_v (v_move rfl) rfl ?_
              refine hl_v (v_add rfl rfl (by first | omega | assumption | (simp only [Int.toNat_natCast]; omega) | (simp; done) | (simp at *; omega))) rfl ?_
              refine hl_v (v_assign rfl) rfl ?_
              refine hl_nil ?_
              refine thenQ_n ?_
              refine ⟨(x.1 + 1, x.2.1, x.2.2), (ai_cons (t := 6) rfl (ai_cons (t := 7) rfl (ai_cons (t := 0) rfl (ai_cons (t := 3) rfl ai_nil)))), ?_, ?_⟩
              · skip
                exact ⟨hx0, hs, n2b, ow, (by omega), ⟨by omega, over_no hov (by assumption) (by assumption)⟩⟩
              · omega
      · try simp only [decide_eq_true_eq, decide_eq_false_iff_not, Bool.and_eq_true, Bool.and_eq_false_iff, Bool.or_eq_true, Bool.or_eq_false_iff, Bool.not_eq_true', Bool.not_eq_false', Bool.not_eq_true, Bool.not_eq_false, beq_iff_eq, Int.not_lt, Int.not_le] at hc6
        refine hw_exit ?_
        refine thenQ_e ?_
        refine thenQ_e ?_
        refine blockQ_hit ?_
        refine thenQ_n ?_
        refine hw_seq ?_
        refine hw_region ?_
        refine hl_v (v_move rfl) rfl ?_
        refine hl_v (v_assign rfl) rfl ?_
        refine hl_v (v_assign rfl) rfl ?_
        refine hl_nil ?_
        refine thenQ_n ?_
        refine hw_sub _ (ai_cons (t := 4) rfl (ai_cons (t := 5) rfl ai_nil)) ?_
        refine hw_ret ?_
        refine ret_i _ (ra_t rfl (ra_t rfl ra_nil)) ?_
        rw [overB_ok (s := s) (r := x.2.2) hc5 (by rw [show l.length = x.1 by omega]; exact hov)]
        exact ⟨_, rfl, ow.base (by omega), hx0⟩

theorem Class_spec {v0 : Value} {l : List BSet} {S : Nat → Prop} {H : Heap} (hs : Sl fSet.rep H S v0 l) (hS : ∀ b, S b → b < H.size) : HC Try.prog 30 [v0] H (fun v H' => ∃ u, v = .tuple #[u, .int .i64 (if rightB l then 0 else 1)] ∧ Ow fInt H' H.size 3 u (if rightB l then cls l else []) ∧ Ext [] H H') := by
  have hx0 : Ext [] H H := Ext.refl _
  have hcap := hs.cap
  refine hc_of_hw (N := 62) (rs := [(.tmp 2), (.tmp 3)]) Try.func30 rfl rfl rfl rfl ?_
  refine hw_seq ?_
  refine hw_region ?_
  refine hl_v (v_assign rfl) rfl ?_
  refine hl_v (v_assign rfl) rfl ?_
  refine hl_nil ?_
  refine thenQ_n ?_
  refine hw_sub _ (ai_cons (t := 0) rfl ai_nil) ?_
  refine hw_seq ?_
  refine hw_region ?_
  refine hl_h (h_makeSlice (g := fInt) (d := default) (B := H.size) Try.underlying51 Try.type3 rfl rfl rfl (by decide) rfl rfl (by first | omega | assumption | (simp only [Int.toNat_natCast]; omega) | (simp; done) | (simp at *; omega)) (by first | omega | assumption | (simp only [Int.toNat_natCast]; omega) | (simp; done) | (simp at *; omega)) (by rw [show Try.t3.bytes = 8 from rfl]; (first | omega | assumption | (simp only [Int.toNat_natCast]; omega) | (simp; done) | (simp at *; omega))) (by first | omega | assumption | (simp only [Int.toNat_natCast]; omega) | (simp; done) | (simp at *; omega))) rfl ?_
  rintro _ H1 ⟨rfl, n2o, n2x, n2s⟩
  replace hx0 := Ext.trans hx0 n2x
  replace hs := Sl.ext0 hs n2x
  refine hl_v (v_assign rfl) rfl ?_
  refine hl_nil ?_
  refine thenQ_n ?_
  refine hw_sub _ (ai_cons (t := 0) rfl (ai_cons (t := 4) rfl ai_nil)) ?_
  refine hw_seq ?_
  refine hw_seq ?_
  have hlr : (List.replicate (256 : Int).toNat (default : Int)).length = 256 := List.length_replicate
  refine hw_region ?_
  refine hl_v (v_move rfl) rfl ?_
  refine hl_v (v_lenL rfl Try.underlying51 rfl (by first | assumption | exact Ow.sl0 (by assumption))) rfl ?_
  refine hl_v (v_move rfl) rfl ?_
  refine hl_nil ?_
  refine thenQ_n ?_
  refine hw_sub _ (ai_cons (t := 0) rfl (ai_cons (t := 4) rfl (ai_cons (t := 13) rfl (ai_cons (t := 14) rfl ai_nil)))) ?_
  refine hw_block ?_
  refine hw_loop (α := Nat) [(0, _), (4, _), (13, _)] (fun k => [(14, .int .i64 (k : Int))]) (fun k G3 => Ext [] H G3 ∧ Sl fSet.rep G3 S v0 l ∧ Ow fInt G3 H.size 3 (.slice (some ⟨H.size, 0, none⟩) (256 : Int).toNat (256 : Int).toNat) (negTo k) ∧ H1.size ≤ G3.size ∧ k ≤ 256) (fun k => 256 - k) 0 (ai_cons (t := 14) rfl (ai_cons (t := 0) rfl (ai_cons (t := 4) rfl (ai_cons (t := 13) rfl ai_nil)))) ?_ ?_
  · exact ⟨hx0, hs, (n2o.congr negTo_zero), Nat.le_refl _, Nat.zero_le _⟩
  · intro k G3 hI
    obtain ⟨hx0, hs, n2o, hz, hk⟩ := hI
    have hx0z := hx0.size
    have hnl := negTo_len k
    refine hw_seq ?_
    refine hw_region ?_
    refine hl_v (v_lss rfl rfl) rfl ?_
    refine hl_nil ?_
    refine thenQ_n ?_
    refine hw_sub _ (ai_cons (t := 0) rfl (ai_cons (t := 4) rfl (ai_cons (t := 13) rfl (ai_cons (t := 14) rfl (ai_cons (t := 15) rfl ai_nil))))) ?_
    refine hw_seq ?_
    refine hw_cond rfl (fun hc3 => ?_) (fun hc3 => ?_)
    · try simp only [decide_eq_true_eq, decide_eq_false_iff_not, Bool.and_eq_true, Bool.and_eq_false_iff, Bool.or_eq_true, Bool.or_eq_false_iff, Bool.not_eq_true', Bool.not_eq_false', Bool.not_eq_true, Bool.not_eq_false, beq_iff_eq, Int.not_lt, Int.not_le] at hc3
      refine hw_skip ?_
      refine thenQ_n ?_
      refine hw_seq ?_
      refine hw_block ?_
      refine hw_seq ?_
      refine hw_region ?_
      refine hl_v (v_move rfl) rfl ?_
      refine hl_v (v_assign rfl) rfl ?_
      refine hl_nil ?_
      refine thenQ_n ?_
      refine hw_sub _ (ai_cons (t := 0) rfl (ai_cons (t := 4) rfl (ai_cons (t := 5) rfl (ai_cons (t := 13) rfl (ai_cons (t := 14) rfl ai_nil))))) ?_
      refine hw_region ?_
      refine hl_v (v_move rfl) rfl ?_
      refine hl_v (v_move rfl) rfl ?_
      refine hl_v (v_ixL Try.underlying51 Try.sizeOf3 rfl rfl (by first | assumption | exact Ow.sl0 (by assumption)) (by first | omega | assumption | (simp only [Int.toNat_natCast]; omega) | (simp; done) | (simp at *; omega))) rfl ?_
      refine hl_s (h_storeOw1 Try.sizeOf3 rfl rfl rfl rfl n2o (by first | omega | assumption | (simp only [Int.toNat_natCast]; omega) | (simp; done) | (simp at *; omega)) rfl rfl) ?_
      rintro _ H4 p5
      have p5s := p5.size
      replace hx0 := Ext.fresh hx0 p5.ext (by intro b hb; exact Or.inl (Nat.le_trans (by omega) (Ow.lt n2o b hb).1))
      replace hs := Sl.ext hs p5.ext (by intro b hb; (try have hSb := hS b hb); intro hm; have hlt := Ow.lt n2o _ hm; (try simp only [mb, List.mem_singleton] at hb); (try simp only [mb, List.mem_singleton] at hm); omega)
      replace n2o := p5.ow
      refine hl_nil ?_
      refine blockQ_n ?_
      refine thenQ_n ?_
      refine hw_region ?_
      refine hl_v (v_add rfl rfl (by first | omega | assumption | (simp only [Int.toNat_natCast]; omega) | (simp; done) | (simp at *; omega))) rfl ?_
      refine hl_v (v_move rfl) rfl ?_
      refine hl_nil ?_
      refine thenQ_n ?_
      refine ⟨k + 1, (ai_cons (t := 14) rfl (ai_cons (t := 0) rfl (ai_cons (t := 4) rfl (ai_cons (t := 13) rfl ai_nil)))), ?_, ?_⟩
      · skip
        exact ⟨hx0, hs, (n2o.congr (negTo_set k)), (by omega), by omega⟩
      · omega
    · try simp only [decide_eq_true_eq, decide_eq_false_iff_not, Bool.and_eq_true, Bool.and_eq_false_iff, Bool.or_eq_true, Bool.or_eq_false_iff, Bool.not_eq_true', Bool.not_eq_false', Bool.not_eq_true, Bool.not_eq_false, beq_iff_eq, Int.not_lt, Int.not_le] at hc3
      refine hw_exit ?_
      refine thenQ_e ?_
      refine thenQ_e ?_
      refine blockQ_hit ?_
      refine thenQ_n ?_
      refine hw_seq ?_
      refine hw_seq ?_
      refine hw_region ?_
      refine hl_v (v_move rfl) rfl ?_
      refine hl_v (v_lenL rfl Try.underlying48 rfl (by first | assumption | exact Ow.sl0 (by assumption))) rfl ?_
      refine hl_v (v_move rfl) rfl ?_
      refine hl_nil ?_
      refine thenQ_n ?_
      refine hw_sub _ (ai_cons (t := 0) rfl (ai_cons (t := 4) rfl (ai_cons (t := 21) rfl (ai_cons (t := 22) rfl (ai_cons (t := 23) rfl ai_nil))))) ?_
      refine hw_block ?_
      refine hw_loop (α := Nat) [(0, _), (4, _), (21, _), (22, _)] (fun i => [(23, .int .i64 (i : Int))]) (fun i G8 => Ext [] H G8 ∧ Sl fSet.rep G8 S v0 l ∧ Ow fInt G8 H.size 3 (.slice (some ⟨H.size, 0, none⟩) (256 : Int).toNat (256 : Int).toNat) (ownTo l i 0) ∧ H1.size ≤ G8.size ∧ i ≤ l.length ∧ ∀ m, m < 256 → cntB (hasN l m) i ≤ 1) (fun i => l.length - i) 0 (ai_cons (t := 23) rfl (ai_cons (t := 0) rfl (ai_cons (t := 4) rfl (ai_cons (t := 21) rfl (ai_cons (t := 22) rfl ai_nil))))) ?_ ?_
      · exact ⟨hx0, hs, (n2o.congr (by rw [show k = 256 by omega]; exact negTo_all l)), (by omega), ⟨Nat.zero_le _, fun _ _ => Nat.zero_le _⟩⟩
      · intro i G8 hI
        obtain ⟨hx0, hs, n2o, hz, ⟨hi, hc⟩⟩ := hI
        have hx0z := hx0.size
        refine hw_seq ?_
        refine hw_region ?_
        refine hl_v (v_lss rfl rfl) rfl ?_
        refine hl_nil ?_
        refine thenQ_n ?_
        refine hw_sub _ (ai_cons (t := 0) rfl (ai_cons (t := 4) rfl (ai_cons (t := 21) rfl (ai_cons (t := 22) rfl (ai_cons (t := 23) rfl (ai_cons (t := 24) rfl ai_nil)))))) ?_
        refine hw_seq ?_
        refine hw_cond rfl (fun hc6 => ?_) (fun hc6 => ?_)
        · try simp only [decide_eq_true_eq, decide_eq_false_iff_not, Bool.and_eq_true, Bool.and_eq_false_iff, Bool.or_eq_true, Bool.or_eq_false_iff, Bool.not_eq_true', Bool.not_eq_false', Bool.not_eq_true, Bool.not_eq_false, beq_iff_eq, Int.not_lt, Int.not_le] at hc6
          refine hw_skip ?_
          refine thenQ_n ?_
          refine hw_seq ?_
          refine hw_block ?_
          refine hw_seq ?_
          refine hw_region ?_
          refine hl_v (v_move rfl) rfl ?_
          refine hl_v (v_ixL Try.underlying48 Try.sizeOf31 rfl rfl (by first | assumption | exact Ow.sl0 (by assumption)) (by first | omega | assumption | (simp only [Int.toNat_natCast]; omega) | (simp; done) | (simp at *; omega))) rfl ?_
          refine hl_v (v_loadFl Try.isAgg31 Try.sizeOf31 rfl (by first | assumption | exact Ow.sl0 (by assumption)) rfl (by first | omega | assumption | (simp only [Int.toNat_natCast]; omega) | (simp; done) | (simp at *; omega))) rfl ?_
          refine hl_h (h_allocS Try.zeroValue31) rfl ?_
          rintro _ H7 ⟨rfl, n8⟩
          have n8s := n8.size
          replace hx0 := Ext.trans hx0 n8.ext
          replace hs := Sl.ext0 hs n8.ext
          replace n2o := Ow.ext0 n2o n8.ext
          have n8b := n8.blk
          refine hl_v (v_assign rfl) rfl ?_
          refine hl_s (h_storeS Try.sizeOf31 rfl rfl n8b) ?_
          rintro _ H9 p10
          have p10s := p10.size
          replace hx0 := Ext.fresh hx0 p10.ext (by intro b hb; simp at hb; omega)
          replace hs := Sl.ext hs p10.ext (by intro b hb; (try have hSb := hS b hb); (try simp only [mb, List.mem_singleton] at hb); simp; omega)
          replace n2o := Ow.ext n2o p10.ext (by intro b hb; have hlb := Ow.lt n2o b hb; (try simp only [mb, List.mem_singleton] at hb); simp; omega)
          replace n8b := p10.blk
          refine hl_nil ?_
          refine thenQ_n ?_
          refine hw_sub _ (ai_cons (t := 0) rfl (ai_cons (t := 4) rfl (ai_cons (t := 6) rfl (ai_cons (t := 7) rfl (ai_cons (t := 21) rfl (ai_cons (t := 22) rfl (ai_cons (t := 23) rfl ai_nil))))))) ?_
          refine hw_seq ?_
          refine hw_region ?_
          refine hl_v (v_move rfl) rfl ?_
          refine hl_nil ?_
          refine thenQ_n ?_
          refine hw_sub _ (ai_cons (t := 0) rfl (ai_cons (t := 4) rfl (ai_cons (t := 6) rfl (ai_cons (t := 7) rfl (ai_cons (t := 21) rfl (ai_cons (t := 22) rfl (ai_cons (t := 23) rfl (ai_cons (t := 28) rfl ai_nil)))))))) ?_
          refine hw_block ?_
          refine hw_loop (α := Nat) [(0, _), (4, _), (6, _), (7, _), (21, _), (22, _), (23, _)] (fun b => [(28, .int .i64 (b : Int))]) (fun b G11 => Ext [] H G11 ∧ Sl fSet.rep G11 S v0 l ∧ Ow fInt G11 H.size 3 (.slice (some ⟨H.size, 0, none⟩) (256 : Int).toNat (256 : Int).toNat) (ownTo l i b) ∧ Blk G11 G8.size (sw (l.getD (i : Int).toNat default)) 31 ∧ H1.size ≤ G8.size ∧ G8.size < G11.size ∧ b ≤ 256 ∧ ∀ m, m < b → cntB (hasN l m) (i + 1) ≤ 1) (fun b => 256 - b) 0 (ai_cons (t := 28) rfl (ai_cons (t := 0) rfl (ai_cons (t := 4) rfl (ai_cons (t := 6) rfl (ai_cons (t := 7) rfl (ai_cons (t := 21) rfl (ai_cons (t := 22) rfl (ai_cons (t := 23) rfl ai_nil)))))))) ?_ ?_
          · exact ⟨hx0, hs, n2o, n8b, hz, (by omega), ⟨Nat.zero_le _, fun m hm => absurd hm (Nat.not_lt_zero _)⟩⟩
          · intro b G11 hI
            obtain ⟨hx0, hs, n2o, nbk, hz, hz2, ⟨hb, hd⟩⟩ := hI
            have hx0z := hx0.size
            have hol := ownTo_len l i b
            have hog : b < 256 → (ownTo l i b).getD (b : Int).toNat default = ownK l b i := fun h => ownTo_get l i h
            refine hw_seq ?_
            refine hw_region ?_
            refine hl_v (v_lss rfl rfl) rfl ?_
            refine hl_nil ?_
            refine thenQ_n ?_
            refine hw_sub _ (ai_cons (t := 0) rfl (ai_cons (t := 4) rfl (ai_cons (t := 6) rfl (ai_cons (t := 7) rfl (ai_cons (t := 21) rfl (ai_cons (t := 22) rfl (ai_cons (t := 23) rfl (ai_cons (t := 28) rfl (ai_cons (t := 29) rfl ai_nil))))))))) ?_
            refine hw_seq ?_
            refine hw_cond rfl (fun hc11 => ?_) (fun hc11 => ?_)
            · try simp only [decide_eq_true_eq, decide_eq_false_iff_not, Bool.and_eq_true, Bool.and_eq_false_iff, Bool.or_eq_true, Bool.or_eq_false_iff, Bool.not_eq_true', Bool.not_eq_false', Bool.not_eq_true, Bool.not_eq_false, beq_iff_eq, Int.not_lt, Int.not_le] at hc11
              refine hw_skip ?_
              refine thenQ_n ?_
              refine hw_seq ?_
              refine hw_block ?_
              refine hw_seq ?_
              refine hw_region ?_
              refine hl_v (v_move rfl) rfl ?_
              refine hl_v (v_assign rfl) rfl ?_
              refine hl_nil ?_
              refine thenQ_n ?_
              refine hw_sub _ (ai_cons (t := 0) rfl (ai_cons (t := 4) rfl (ai_cons (t := 6) rfl (ai_cons (t := 7) rfl (ai_cons (t := 8) rfl (ai_cons (t := 21) rfl (ai_cons (t := 22) rfl (ai_cons (t := 23) rfl (ai_cons (t := 28) rfl ai_nil))))))))) ?_
              refine hw_seq ?_
              refine hw_seq ?_
              refine hw_region ?_
              refine hl_v (v_loadS Try.isAgg31 Try.sizeOf31 rfl (by first | exact n8b | assumption)) rfl ?_
              refine hl_v (v_move rfl) rfl ?_
              refine hl_v (v_toB (by rw [Try.underlying3]; rfl) Try.underlying5 rfl (by first | omega | assumption | (simp only [Int.toNat_natCast]; omega) | (simp; done) | (simp at *; omega))) rfl ?_
              refine hl_h (h_call Try.call22 (evs_cons rfl (evs_cons rfl evs_nil)) (Has_spec)) rfl ?_
              rintro _ H12 ⟨rfl, n13⟩
              have n13s := n13.size
              replace hx0 := Ext.trans hx0 n13
              replace hs := Sl.ext0 hs n13
              replace n2o := Ow.ext0 n2o n13
              replace nbk := Ext.blk n13 nbk (by simp)
              refine hl_v (v_not rfl) rfl ?_
              refine hl_nil ?_
              refine thenQ_n ?_
              refine hw_sub _ (ai_cons (t := 0) rfl (ai_cons (t := 4) rfl (ai_cons (t := 6) rfl (ai_cons (t := 7) rfl (ai_cons (t := 8) rfl (ai_cons (t := 21) rfl (ai_cons (t := 22) rfl (ai_cons (t := 23) rfl (ai_cons (t := 28) rfl (ai_cons (t := 35) rfl ai_nil)))))))))) ?_
              refine hw_cond rfl (fun hc14 => ?_) (fun hc14 => ?_)
              · try simp only [decide_eq_true_eq, decide_eq_false_iff_not, Bool.and_eq_true, Bool.and_eq_false_iff, Bool.or_eq_true, Bool.or_eq_false_iff, Bool.not_eq_true', Bool.not_eq_false', Bool.not_eq_true, Bool.not_eq_false, beq_iff_eq, Int.not_lt, Int.not_le] at hc14
                rw [show (UInt8.ofNat (b : Int).toNat).toNat = b by rw [UInt8.toNat_ofNat']; simp only [Int.toNat_natCast]; omega] at hc14
                refine hw_exit ?_
                refine thenQ_e ?_
                refine blockQ_hit ?_
                refine thenQ_n ?_
                refine hw_region ?_
                refine hl_v (v_add rfl rfl (by first | omega | assumption | (simp only [Int.toNat_natCast]; omega) | (simp; done) | (simp at *; omega))) rfl ?_
                refine hl_v (v_move rfl) rfl ?_
                refine hl_nil ?_
                refine thenQ_n ?_
                refine ⟨b + 1, (ai_cons (t := 28) rfl (ai_cons (t := 0) rfl (ai_cons (t := 4) rfl (ai_cons (t := 6) rfl (ai_cons (t := 7) rfl (ai_cons (t := 21) rfl (ai_cons (t := 22) rfl (ai_cons (t := 23) rfl ai_nil)))))))), ?_, ?_⟩
                · skip
                  exact ⟨hx0, hs, (n2o.congr (ownTo_no (show hasN l b i = false from by assumption))), nbk, hz, (by omega), ⟨by omega, fun m hm => by by_cases e : m = b; rw [e]; exact class_same (show hasN l b i = false from by assumption) (hc b (by omega)); exact hd m (by omega)⟩⟩
                · omega
              · try simp only [decide_eq_true_eq, decide_eq_false_iff_not, Bool.and_eq_true, Bool.and_eq_false_iff, Bool.or_eq_true, Bool.or_eq_false_iff, Bool.not_eq_true', Bool.not_eq_false', Bool.not_eq_true, Bool.not_eq_false, beq_iff_eq, Int.not_lt, Int.not_le] at hc14
                rw [show (UInt8.ofNat (b : Int).toNat).toNat = b by rw [UInt8.toNat_ofNat']; simp only [Int.toNat_natCast]; omega] at hc14
                refine hw_skip ?_
                refine thenQ_n ?_
                refine hw_seq ?_
                refine hw_seq ?_
                refine hw_region ?_
                refine hl_v (v_move rfl) rfl ?_
                refine hl_v (v_move rfl) rfl ?_
                refine hl_v (v_ixL Try.underlying51 Try.sizeOf3 rfl rfl (by first | assumption | exact Ow.sl0 (by assumption)) (by first | omega | assumption | (simp only [Int.toNat_natCast]; omega) | (simp; done) | (simp at *; omega))) rfl ?_
                refine hl_v (v_loadSc Try.isAgg3 rfl (by first | assumption | exact Ow.sl0 (by assumption)) rfl (by first | omega | assumption | (simp only [Int.toNat_natCast]; omega) | (simp; done) | (simp at *; omega)) rfl) rfl ?_
                refine hl_v (v_geq rfl rfl) rfl ?_
                refine hl_nil ?_
                refine thenQ_n ?_
                refine hw_sub _ (ai_cons (t := 0) rfl (ai_cons (t := 4) rfl (ai_cons (t := 6) rfl (ai_cons (t := 7) rfl (ai_cons (t := 8) rfl (ai_cons (t := 21) rfl (ai_cons (t := 22) rfl (ai_cons (t := 23) rfl (ai_cons (t := 28) rfl (ai_cons (t := 40) rfl ai_nil)))))))))) ?_
                refine hw_cond rfl (fun hc15 => ?_) (fun hc15 => ?_)
                · try simp only [decide_eq_true_eq, decide_eq_false_iff_not, Bool.and_eq_true, Bool.and_eq_false_iff, Bool.or_eq_true, Bool.or_eq_false_iff, Bool.not_eq_true', Bool.not_eq_false', Bool.not_eq_true, Bool.not_eq_false, beq_iff_eq, Int.not_lt, Int.not_le] at hc15
                  refine hw_seq ?_
                  refine hw_region ?_
                  refine hl_v (v_assign rfl) rfl ?_
                  refine hl_v (v_assign rfl) rfl ?_
                  refine hl_nil ?_
                  refine thenQ_n ?_
                  refine hw_sub _ (ai_cons (t := 2) rfl (ai_cons (t := 3) rfl ai_nil)) ?_
                  refine hw_ret ?_
                  refine thenQ_r ?_
                  refine blockQ_r ?_
                  refine thenQ_r ?_
                  refine thenQ_r ?_
                  refine blockQ_r ?_
                  refine blockQ_r ?_
                  refine thenQ_r ?_
                  refine thenQ_r ?_
                  refine blockQ_r ?_
                  refine thenQ_r ?_
                  refine ret_i _ (ra_t rfl (ra_t rfl ra_nil)) ?_
                  rw [class_two (by omega) (by omega) (show hasN l b i = true from by assumption) (by have := hog (by omega); omega)]
                  exact ⟨_, rfl, Ow.nil, hx0⟩
                · try simp only [decide_eq_true_eq, decide_eq_false_iff_not, Bool.and_eq_true, Bool.and_eq_false_iff, Bool.or_eq_true, Bool.or_eq_false_iff, Bool.not_eq_true', Bool.not_eq_false', Bool.not_eq_true, Bool.not_eq_false, beq_iff_eq, Int.not_lt, Int.not_le] at hc15
                  refine hw_skip ?_
                  refine thenQ_n ?_
                  refine hw_region ?_
                  refine hl_v (v_move rfl) rfl ?_
                  refine hl_v (v_move rfl) rfl ?_
                  refine hl_v (v_move rfl) rfl ?_
                  refine hl_v (v_ixL Try.underlying51 Try.sizeOf3 rfl rfl (by first | assumption | exact Ow.sl0 (by assumption)) (by first | omega | assumption | (simp only [Int.toNat_natCast]; omega) | (simp; done) | (simp at *; omega))) rfl ?_
                  refine hl_s (h_storeOw1 Try.sizeOf3 rfl rfl rfl rfl n2o (by first | omega | assumption | (simp only [Int.toNat_natCast]; omega) | (simp; done) | (simp at *; omega)) rfl rfl) ?_
                  rintro _ H16 p17
                  have p17s := p17.size
                  replace hx0 := Ext.fresh hx0 p17.ext (by intro b hb; exact Or.inl (Nat.le_trans (by omega) (Ow.lt n2o b hb).1))
                  replace hs := Sl.ext hs p17.ext (by intro b hb; (try have hSb := hS b hb); intro hm; have hlt := Ow.lt n2o _ hm; (try simp only [mb, List.mem_singleton] at hb); (try simp only [mb, List.mem_singleton] at hm); omega)
                  replace nbk := Ext.blk p17.ext nbk (by intro hm; have hlt := Ow.lt n2o _ hm; (try simp only [mb, List.mem_singleton] at hb); (try simp only [mb, List.mem_singleton] at hm); omega)
                  replace n2o := p17.ow
                  refine hl_nil ?_
                  refine blockQ_n ?_
                  refine thenQ_n ?_
                  refine hw_region ?_
                  refine hl_v (v_add rfl rfl (by first | omega | assumption | (simp only [Int.toNat_natCast]; omega) | (simp; done) | (simp at *; omega))) rfl ?_
                  refine hl_v (v_move rfl) rfl ?_
                  refine hl_nil ?_
                  refine thenQ_n ?_
                  refine ⟨b + 1, (ai_cons (t := 28) rfl (ai_cons (t := 0) rfl (ai_cons (t := 4) rfl (ai_cons (t := 6) rfl (ai_cons (t := 7) rfl (ai_cons (t := 21) rfl (ai_cons (t := 22) rfl (ai_cons (t := 23) rfl ai_nil)))))))), ?_, ?_⟩
                  · skip
                    exact ⟨hx0, hs, (n2o.congr (ownTo_yes (show hasN l b i = true from by assumption))), nbk, hz, (by omega), ⟨by omega, fun m hm => by by_cases e : m = b; rw [e]; exact class_one (show hasN l b i = true from by assumption) (by have h9 := hog (by omega); omega); exact hd m (by omega)⟩⟩
                  · omega
            · try simp only [decide_eq_true_eq, decide_eq_false_iff_not, Bool.and_eq_true, Bool.and_eq_false_iff, Bool.or_eq_true, Bool.or_eq_false_iff, Bool.not_eq_true', Bool.not_eq_false', Bool.not_eq_true, Bool.not_eq_false, beq_iff_eq, Int.not_lt, Int.not_le] at hc11
              refine hw_exit ?_
              refine thenQ_e ?_
              refine thenQ_e ?_
              refine blockQ_hit ?_
              refine blockQ_n ?_
              refine thenQ_n ?_
              refine hw_region ?_
              refine hl_v (v_add rfl rfl (by first | omega | assumption | (simp only [Int.toNat_natCast]; omega) | (simp; done) | (simp at *; omega))) rfl ?_
              refine hl_v (v_move rfl) rfl ?_
              refine hl_nil ?_
              refine thenQ_n ?_
              refine ⟨i + 1, (ai_cons (t := 23) rfl (ai_cons (t := 0) rfl (ai_cons (t := 4) rfl (ai_cons (t := 21) rfl (ai_cons (t := 22) rfl ai_nil))))), ?_, ?_⟩
              · skip
                exact ⟨hx0, hs, (n2o.congr (by rw [show b = 256 by omega]; exact ownTo_all l i)), (by omega), ⟨by omega, fun m hm => hd m (by omega)⟩⟩
              · omega
        · try simp only [decide_eq_true_eq, decide_eq_false_iff_not, Bool.and_eq_true, Bool.and_eq_false_iff, Bool.or_eq_true, Bool.or_eq_false_iff, Bool.not_eq_true', Bool.not_eq_false', Bool.not_eq_true, Bool.not_eq_false, beq_iff_eq, Int.not_lt, Int.not_le] at hc6
          refine hw_exit ?_
          refine thenQ_e ?_
          refine thenQ_e ?_
          refine blockQ_hit ?_
          refine thenQ_n ?_
          refine hw_seq ?_
          refine hw_region ?_
          refine hl_v (v_move rfl) rfl ?_
          refine hl_h (h_call Try.call44 (evs_cons rfl evs_nil) (Sets_spec (by first | assumption | exact Ow.sl0 (by assumption)) (by first | assumption | exact fun _ h => h | exact fun b hb => (Ow.lt (by assumption) b hb).2 | (intro b hb; have hSb := hS b hb; omega)))) rfl ?_
          rintro _ H18 ⟨n19u, rfl, n19o, n19⟩
          have n19s := n19.size
          replace hx0 := Ext.trans hx0 n19
          replace hs := Sl.ext0 hs n19
          replace n2o := Ow.ext0 n2o n19
          refine hl_v (v_move rfl) rfl ?_
          refine hl_v (v_extract rfl rfl) rfl ?_
          refine hl_v (v_extract rfl rfl) rfl ?_
          refine hl_v (v_assign rfl) rfl ?_
          refine hl_v (v_assign rfl) rfl ?_
          refine hl_nil ?_
          refine thenQ_n ?_
          refine hw_sub _ (ai_cons (t := 0) rfl (ai_cons (t := 4) rfl (ai_cons (t := 9) rfl (ai_cons (t := 10) rfl ai_nil)))) ?_
          refine hw_seq ?_
          refine hw_seq ?_
          refine hw_region ?_
          refine hl_v (v_move rfl) rfl ?_
          refine hl_v (v_neq rfl rfl) rfl ?_
          refine hl_v (v_move rfl) rfl ?_
          refine hl_g rfl rfl (fun hg => (v_move rfl)) rfl ?_
          refine hl_g rfl rfl (fun hg => (v_lenL rfl Try.underlying48 (gv_ok rfl hg) (by first | assumption | exact Ow.sl0 (by assumption)))) rfl ?_
          refine hl_g rfl rfl (fun hg => (v_move rfl)) rfl ?_
          refine hl_g rfl rfl (fun hg => (v_lenL rfl Try.underlying48 (gv_ok rfl hg) (by first | assumption | exact Ow.sl0 (by assumption)))) rfl ?_
          refine hl_g rfl rfl (fun hg => (v_neq (gv_ok rfl hg) (gv_ok rfl hg))) rfl ?_
          refine hl_v (v_or rfl rfl) rfl ?_
          refine hl_nil ?_
          refine thenQ_n ?_
          refine hw_sub _ (ai_cons (t := 4) rfl (ai_cons (t := 60) rfl ai_nil)) ?_
          refine hw_cond rfl (fun hc20 => ?_) (fun hc20 => ?_)
          · try simp only [decide_eq_true_eq, decide_eq_false_iff_not, Bool.and_eq_true, Bool.and_eq_false_iff, Bool.or_eq_true, Bool.or_eq_false_iff, Bool.not_eq_true', Bool.not_eq_false', Bool.not_eq_true, Bool.not_eq_false, beq_iff_eq, Int.not_lt, Int.not_le] at hc20
            have hcZ := hc20
            refine hw_seq ?_
            refine hw_region ?_
            refine hl_v (v_assign rfl) rfl ?_
            refine hl_v (v_assign rfl) rfl ?_
            refine hl_nil ?_
            refine thenQ_n ?_
            refine hw_sub _ (ai_cons (t := 2) rfl (ai_cons (t := 3) rfl ai_nil)) ?_
            refine hw_ret ?_
            refine thenQ_r ?_
            refine ret_i _ (ra_t rfl (ra_t rfl ra_nil)) ?_
            have hi6 : i = l.length := by omega
            have hci := class_iff (p := l) (by rw [← hi6]; exact hc)
            subst hi6
            rw [ownTo_own] at hcZ
            rw [← hci, class_bad hcZ]
            exact ⟨_, rfl, Ow.nil, hx0⟩
          · try simp only [decide_eq_true_eq, decide_eq_false_iff_not, Bool.and_eq_true, Bool.and_eq_false_iff, Bool.or_eq_true, Bool.or_eq_false_iff, Bool.not_eq_true', Bool.not_eq_false', Bool.not_eq_true, Bool.not_eq_false, beq_iff_eq, Int.not_lt, Int.not_le] at hc20
            have hcZ := hc20
            refine hw_skip ?_
            refine thenQ_n ?_
            refine hw_seq ?_
            refine hw_region ?_
            refine hl_v (v_move rfl) rfl ?_
            refine hl_v (v_assign rfl) rfl ?_
            refine hl_v (v_assign rfl) rfl ?_
            refine hl_nil ?_
            refine thenQ_n ?_
            refine hw_sub _ (ai_cons (t := 2) rfl (ai_cons (t := 3) rfl ai_nil)) ?_
            refine hw_ret ?_
            refine ret_i _ (ra_t rfl (ra_t rfl ra_nil)) ?_
            have hi6 : i = l.length := by omega
            have hci := class_iff (p := l) (by rw [← hi6]; exact hc)
            subst hi6
            rw [ownTo_own] at hcZ n2o
            have hrt := hci.symm.trans (class_good hcZ)
            rw [hrt]
            rw [right_own hrt] at n2o
            exact ⟨_, rfl, n2o, hx0⟩

theorem Over_spec {v0 : Value} {l : List BSet} {S : Nat → Prop} {H : Heap} (hs : Sl fSet.rep H S v0 l) (hS : ∀ b, S b → b < H.size) {s : BSet} : HC Try.prog 46 [v0, sv s] H (fun v H' => ∃ u, v = .tuple #[u, .int .i64 (if (overB l s).isSome then 0 else 1)] ∧ Ow fNat H' H.size 3 u ((overB l s).getD []) ∧ Ext [] H H') := by
  have hx0 : Ext [] H H := Ext.refl _
  have hcap := hs.cap
  refine hc_of_hw (N := 41) (rs := [(.tmp 4), (.tmp 5)]) Try.func46 rfl rfl rfl rfl ?_
  refine hw_seq ?_
  refine hw_region ?_
  refine hl_h (h_boxS rfl) rfl ?_
  rintro _ H1 ⟨rfl, n2⟩
  have n2s := n2.size
  replace hx0 := Ext.trans hx0 n2.ext
  replace hs := Sl.ext0 hs n2.ext
  have n2b := n2.blk
  refine hl_v (v_assign rfl) rfl ?_
  refine hl_v (v_assign rfl) rfl ?_
  refine hl_nil ?_
  refine thenQ_n ?_
  refine hw_sub _ (ai_cons (t := 0) rfl (ai_cons (t := 3) rfl ai_nil)) ?_
  refine hw_seq ?_
  refine hw_seq ?_
  refine hw_region ?_
  refine hl_v (v_move rfl) rfl ?_
  refine hl_h (h_call Try.call30 (evs_cons rfl evs_nil) (Class_spec (by first | assumption | exact Ow.sl0 (by assumption)) (by first | assumption | exact fun _ h => h | exact fun b hb => (Ow.lt (by assumption) b hb).2 | (intro b hb; have hSb := hS b hb; omega)))) rfl ?_
  rintro _ H3 ⟨n4u, rfl, n4o, n4⟩
  have n4s := n4.size
  replace hx0 := Ext.trans hx0 n4
  replace hs := Sl.ext0 hs n4
  replace n2b := Ext.blk n4 n2b (by simp)
  refine hl_v (v_move rfl) rfl ?_
  refine hl_v (v_extract rfl rfl) rfl ?_
  refine hl_v (v_extract rfl rfl) rfl ?_
  refine hl_v (v_assign rfl) rfl ?_
  refine hl_v (v_assign rfl) rfl ?_
  refine hl_nil ?_
  refine thenQ_n ?_
  refine hw_sub _ (ai_cons (t := 0) rfl (ai_cons (t := 3) rfl (ai_cons (t := 7) rfl ai_nil))) ?_
  refine hw_seq ?_
  refine hw_region ?_
  refine hl_v (v_move rfl) rfl ?_
  refine hl_v (v_neq rfl rfl) rfl ?_
  refine hl_nil ?_
  refine thenQ_n ?_
  refine hw_sub _ (ai_cons (t := 0) rfl (ai_cons (t := 3) rfl (ai_cons (t := 7) rfl (ai_cons (t := 17) rfl ai_nil)))) ?_
  refine hw_cond rfl (fun hc5 => ?_) (fun hc5 => ?_)
  · try simp only [decide_eq_true_eq, decide_eq_false_iff_not, Bool.and_eq_true, Bool.and_eq_false_iff, Bool.or_eq_true, Bool.or_eq_false_iff, Bool.not_eq_true', Bool.not_eq_false', Bool.not_eq_true, Bool.not_eq_false, beq_iff_eq, Int.not_lt, Int.not_le] at hc5
    have hcR := hc5
    refine hw_seq ?_
    refine hw_region ?_
    refine hl_v (v_move rfl) rfl ?_
    refine hl_v (v_assign rfl) rfl ?_
    refine hl_v (v_assign rfl) rfl ?_
    refine hl_nil ?_
    refine thenQ_n ?_
    refine hw_sub _ (ai_cons (t := 4) rfl (ai_cons (t := 5) rfl ai_nil)) ?_
    refine hw_ret ?_
    refine thenQ_r ?_
    refine ret_i _ (ra_t rfl (ra_t rfl ra_nil)) ?_
    have hrf : rightB l = false := by
      cases e : rightB l
      · rfl
      · rw [e] at hcR; simp at hcR
    rw [overB_not hrf, hrf]
    exact ⟨_, rfl, Ow.nil, hx0⟩
  · try simp only [decide_eq_true_eq, decide_eq_false_iff_not, Bool.and_eq_true, Bool.and_eq_false_iff, Bool.or_eq_true, Bool.or_eq_false_iff, Bool.not_eq_true', Bool.not_eq_false', Bool.not_eq_true, Bool.not_eq_false, beq_iff_eq, Int.not_lt, Int.not_le] at hc5
    have hcR := hc5
    refine hw_skip ?_
    refine thenQ_n ?_
    refine hw_seq ?_
    have hrt : rightB l = true := by
      cases e : rightB l
      · rw [e] at hcR; simp at hcR
      · rfl
    have hrl := right_len hrt
    refine hw_region ?_
    refine hl_v (v_assign rfl) rfl ?_
    refine hl_nil ?_
    refine thenQ_n ?_
    refine hw_sub _ (ai_cons (t := 0) rfl (ai_cons (t := 3) rfl (ai_cons (t := 8) rfl ai_nil))) ?_
    refine hw_seq ?_
    refine hw_seq ?_
    refine hw_region ?_
    refine hl_v (v_move rfl) rfl ?_
    refine hl_v (v_lenL rfl Try.underlying48 rfl (by first | assumption | exact Ow.sl0 (by assumption))) rfl ?_
    refine hl_v (v_move rfl) rfl ?_
    refine hl_nil ?_
    refine thenQ_n ?_
    refine hw_sub _ (ai_cons (t := 3) rfl (ai_cons (t := 8) rfl (ai_cons (t := 19) rfl (ai_cons (t := 20) rfl (ai_cons (t := 21) rfl ai_nil))))) ?_
    refine hw_block ?_
    refine hw_loop (α := Nat × Value × List Nat) [(3, _), (19, _), (20, _)] (fun x => [(8, x.2.1), (21, .int .i64 (x.1 : Int))]) (fun x G6 => Ext [] H G6 ∧ Sl fSet.rep G6 S v0 l ∧ Blk G6 H.size (sw s) 31 ∧ Ow fNat G6 H1.size 3 x.2.1 x.2.2 ∧ H1.size ≤ G6.size ∧ x.1 ≤ l.length ∧ overK l s x.1 = some x.2.2) (fun x => l.length - x.1) (0, .slice none 0 0, []) (ai_cons (t := 8) rfl (ai_cons (t := 21) rfl (ai_cons (t := 3) rfl (ai_cons (t := 19) rfl (ai_cons (t := 20) rfl ai_nil))))) ?_ ?_
    · exact ⟨hx0, hs, n2b, Ow.nil, (by omega), ⟨Nat.zero_le _, rfl⟩⟩
    · intro x G6 hI
      obtain ⟨hx0, hs, n2b, ow, hz, ⟨hk, hov⟩⟩ := hI
      have hx0z := hx0.size
      have hol := overK_len hov
      refine hw_seq ?_
      refine hw_region ?_
      refine hl_v (v_lss rfl rfl) rfl ?_
      refine hl_nil ?_
      refine thenQ_n ?_
      refine hw_sub _ (ai_cons (t := 3) rfl (ai_cons (t := 8) rfl (ai_cons (t := 19) rfl (ai_cons (t := 20) rfl (ai_cons (t := 21) rfl (ai_cons (t := 22) rfl ai_nil)))))) ?_
      refine hw_seq ?_
      refine hw_cond rfl (fun hc6 => ?_) (fun hc6 => ?_)
      · try simp only [decide_eq_true_eq, decide_eq_false_iff_not, Bool.and_eq_true, Bool.and_eq_false_iff, Bool.or_eq_true, Bool.or_eq_false_iff, Bool.not_eq_true', Bool.not_eq_false', Bool.not_eq_true, Bool.not_eq_false, beq_iff_eq, Int.not_lt, Int.not_le] at hc6
        refine hw_skip ?_
        refine thenQ_n ?_
        refine hw_seq ?_
        refine hw_block ?_
        refine hw_seq ?_
        have howlt : ∀ b, b ∈ mb x.2.1 → b < G6.size := fun b hb => (Ow.lt ow b hb).2
        refine hw_region ?_
        refine hl_v (v_move rfl) rfl ?_
        refine hl_v (v_ixL Try.underlying48 Try.sizeOf31 rfl rfl (by first | assumption | exact Ow.sl0 (by assumption)) (by first | omega | assumption | (simp only [Int.toNat_natCast]; omega) | (simp; done) | (simp at *; omega))) rfl ?_
        refine hl_v (v_loadFl Try.isAgg31 Try.sizeOf31 rfl (by first | assumption | exact Ow.sl0 (by assumption)) rfl (by first | omega | assumption | (simp only [Int.toNat_natCast]; omega) | (simp; done) | (simp at *; omega))) rfl ?_
        refine hl_h (h_allocS Try.zeroValue31) rfl ?_
        rintro _ H7 ⟨rfl, n8⟩
        have n8s := n8.size
        replace hx0 := Ext.trans hx0 n8.ext
        replace hs := Sl.ext0 hs n8.ext
        replace n2b := Ext.blk n8.ext n2b (by simp)
        replace ow := Ow.ext0 ow n8.ext
        have n8b := n8.blk
        refine hl_v (v_assign rfl) rfl ?_
        refine hl_s (h_storeS Try.sizeOf31 rfl rfl n8b) ?_
        rintro _ H9 p10
        have p10s := p10.size
        replace hx0 := Ext.fresh hx0 p10.ext (by intro b hb; simp at hb; omega)
        replace hs := Sl.ext hs p10.ext (by intro b hb; (try have hSb := hS b hb); (try simp only [mb, List.mem_singleton] at hb); simp; (try have hsp := howlt _ hb); (try have hsq := howlt _ hm); omega)
        replace n2b := Ext.blk p10.ext n2b (by (try simp only [mb, List.mem_singleton] at hb); simp; (try have hsp := howlt _ hb); (try have hsq := howlt _ hm); omega)
        replace ow := Ow.ext ow p10.ext (by intro b hb; have hlb := Ow.lt ow b hb; (try simp only [mb, List.mem_singleton] at hb); simp; (try have hsp := howlt _ hb); (try have hsq := howlt _ hm); omega)
        replace n8b := p10.blk
        refine hl_nil ?_
        refine thenQ_n ?_
        refine hw_sub _ (ai_cons (t := 3) rfl (ai_cons (t := 8) rfl (ai_cons (t := 9) rfl (ai_cons (t := 10) rfl (ai_cons (t := 19) rfl (ai_cons (t := 20) rfl (ai_cons (t := 21) rfl ai_nil))))))) ?_
        refine hw_seq ?_
        refine hw_region ?_
        refine hl_v (v_loadS Try.isAgg31 Try.sizeOf31 rfl (by first | exact n8b | assumption)) rfl ?_
        refine hl_v (v_loadS Try.isAgg31 Try.sizeOf31 rfl (by first | exact n2b | assumption)) rfl ?_
        refine hl_h (h_call Try.call35 (evs_cons rfl (evs_cons rfl evs_nil)) (Both_spec)) rfl ?_
        rintro _ H11 ⟨rfl, n12⟩
        have n12s := n12.size
        replace hx0 := Ext.trans hx0 n12
        replace hs := Sl.ext0 hs n12
        replace n2b := Ext.blk n12 n2b (by simp)
        replace ow := Ow.ext0 ow n12
        replace n8b := Ext.blk n12 n8b (by simp)
        refine hl_nil ?_
        refine thenQ_n ?_
        refine hw_sub _ (ai_cons (t := 3) rfl (ai_cons (t := 8) rfl (ai_cons (t := 9) rfl (ai_cons (t := 10) rfl (ai_cons (t := 19) rfl (ai_cons (t := 20) rfl (ai_cons (t := 21) rfl (ai_cons (t := 28) rfl ai_nil)))))))) ?_
        refine hw_block ?_
        refine hw_seq ?_
        refine hw_region ?_
        refine hl_v (v_loadS Try.isAgg31 Try.sizeOf31 rfl (by first | exact n8b | assumption)) rfl ?_
        refine hl_v (v_eqlSet Try.underlying31 Try.underlying29 Try.sizeOf29 (by kernel_rfl) rfl rfl) rfl ?_
        refine hl_v (v_assign rfl) rfl ?_
        refine hl_nil ?_
        refine thenQ_n ?_
        refine hw_sub _ (ai_cons (t := 3) rfl (ai_cons (t := 8) rfl (ai_cons (t := 9) rfl (ai_cons (t := 19) rfl (ai_cons (t := 20) rfl (ai_cons (t := 21) rfl (ai_cons (t := 28) rfl (ai_cons (t := 29) rfl ai_nil)))))))) ?_
        refine hw_cond rfl (fun hc13 => ?_) (fun hc13 => ?_)
        · try simp only [decide_eq_true_eq, decide_eq_false_iff_not, Bool.and_eq_true, Bool.and_eq_false_iff, Bool.or_eq_true, Bool.or_eq_false_iff, Bool.not_eq_true', Bool.not_eq_false', Bool.not_eq_true, Bool.not_eq_false, beq_iff_eq, Int.not_lt, Int.not_le] at hc13
          refine hw_region ?_
          refine hl_v (v_move rfl) rfl ?_
          refine hl_v (v_move rfl) rfl ?_
          refine hl_h (h_buildSlice (xs := [.tmp 33]) Try.underlying51 Try.sizeOf3 Try.zeroValue3 rfl (evs_cons rfl evs_nil) rfl (by decide) (by decide) (by intro v hv; simp only [List.mem_cons, List.not_mem_nil, or_false] at hv; rcases hv with rfl <;> rfl)) rfl ?_
          rintro _ H14 ⟨rfl, n15⟩
          have n15s := n15.size
          replace hx0 := Ext.trans hx0 n15.ext
          replace hs := Sl.ext0 hs n15.ext
          replace n2b := Ext.blk n15.ext n2b (by simp)
          replace ow := Ow.ext0 ow n15.ext
          replace n8b := Ext.blk n15.ext n8b (by simp)
          have n15o := Ow.new (g := fNat) (l := [_]) (B := H11.size) n15 rfl (by omega) (by simp)
          refine hl_h (h_append (g := fNat) (B := _) rfl Try.underlying51 Try.type3 rfl rfl rfl rfl (by decide) rfl rfl ow (by first | assumption | exact Ow.sl0 (by assumption)) (by first | (rw [show Try.t3.bytes = 8 from rfl]; simp only [List.length_append, List.length_cons, List.length_nil]; omega) | (rw [show Try.t3.bytes = 8 from rfl]; omega) | omega | (simp only [List.length_append, List.length_cons, List.length_nil]; omega) | assumption | (simp; done)) (by first | (rw [show Try.t3.bytes = 8 from rfl]; simp only [List.length_append, List.length_cons, List.length_nil]; omega) | (rw [show Try.t3.bytes = 8 from rfl]; omega) | omega | (simp only [List.length_append, List.length_cons, List.length_nil]; omega) | assumption | (simp; done)) (by first | (rw [show Try.t3.bytes = 8 from rfl]; simp only [List.length_append, List.length_cons, List.length_nil]; omega) | (rw [show Try.t3.bytes = 8 from rfl]; omega) | omega | (simp only [List.length_append, List.length_cons, List.length_nil]; omega) | assumption | (simp; done))) rfl ?_
          rintro v18 H16 ⟨a17o, a17x, a17n, a17b⟩
          have a17s := a17x.size
          replace hx0 := Ext.fresh hx0 a17x (by intro b hb; exact Or.inl (Nat.le_trans (by omega) (Ow.lt ow b hb).1))
          replace hs := Sl.ext hs a17x (by intro b hb; (try have hSb := hS b hb); intro hm; have hlt := Ow.lt ow _ hm; (try simp only [mb, List.mem_singleton] at hb); (try simp only [mb, List.mem_singleton] at hm); (try have hsp := howlt _ hb); (try have hsq := howlt _ hm); omega)
          replace n2b := Ext.blk a17x n2b (by intro hm; have hlt := Ow.lt ow _ hm; (try simp only [mb, List.mem_singleton] at hb); (try simp only [mb, List.mem_singleton] at hm); (try have hsp := howlt _ hb); (try have hsq := howlt _ hm); omega)
          replace n8b := Ext.blk a17x n8b (by intro hm; have hlt := Ow.lt ow _ hm; (try simp only [mb, List.mem_singleton] at hb); (try simp only [mb, List.mem_singleton] at hm); (try have hsp := howlt _ hb); (try have hsq := howlt _ hm); omega)
          refine hl_v (v_assign rfl) rfl ?_
          refine hl_nil ?_
          refine blockQ_n ?_
          refine blockQ_n ?_
          refine thenQ_n ?_
          refine hw_region ?_
          refine hl_v (v_add rfl rfl (by first | omega | assumption | (simp only [Int.toNat_natCast]; omega) | (simp; done) | (simp at *; omega))) rfl ?_
          refine hl_v (v_move rfl) rfl ?_
          refine hl_nil ?_
          refine thenQ_n ?_
          refine ⟨(x.1 + 1, _, x.2.2 ++ [x.1]), (ai_cons (t := 8) rfl (ai_cons (t := 21) rfl (ai_cons (t := 3) rfl (ai_cons (t := 19) rfl (ai_cons (t := 20) rfl ai_nil))))), ?_, ?_⟩
          · skip
            exact ⟨hx0, hs, n2b, a17o, (by omega), ⟨by omega, over_yes hov (by assumption)⟩⟩
          · omega
        · try simp only [decide_eq_true_eq, decide_eq_false_iff_not, Bool.and_eq_true, Bool.and_eq_false_iff, Bool.or_eq_true, Bool.or_eq_false_iff, Bool.not_eq_true', Bool.not_eq_false', Bool.not_eq_true, Bool.not_eq_false, beq_iff_eq, Int.not_lt, Int.not_le] at hc13
          refine hw_seq ?_
          refine hw_region ?_
          refine hl_v (v_buildS0 Try.underlying31 Try.zeroValue31 Try.sizeOf29) rfl ?_
          refine hl_v (v_eqlSet Try.underlying31 Try.underlying29 Try.sizeOf29 (by kernel_rfl) rfl rfl) rfl ?_
          refine hl_v (v_assign rfl) rfl ?_
          refine hl_nil ?_
          refine thenQ_n ?_
          refine hw_sub _ (ai_cons (t := 3) rfl (ai_cons (t := 8) rfl (ai_cons (t := 19) rfl (ai_cons (t := 20) rfl (ai_cons (t := 21) rfl (ai_cons (t := 36) rfl ai_nil)))))) ?_
          refine hw_cond rfl (fun hc19 => ?_) (fun hc19 => ?_)
          · try simp only [decide_eq_true_eq, decide_eq_false_iff_not, Bool.and_eq_true, Bool.and_eq_false_iff, Bool.or_eq_true, Bool.or_eq_false_iff, Bool.not_eq_true', Bool.not_eq_false', Bool.not_eq_true, Bool.not_eq_false, beq_iff_eq, Int.not_lt, Int.not_le] at hc19
            refine hw_skip ?_
            refine blockQ_n ?_
            refine blockQ_n ?_
            refine thenQ_n ?_
            refine hw_region ?_
            refine hl_v (v_add rfl rfl (by first | omega | assumption | (simp only [Int.toNat_natCast]; omega) | (simp; done) | (simp at *; omega))) rfl ?_
            refine hl_v (v_move rfl) rfl ?_
            refine hl_nil ?_
            refine thenQ_n ?_
            refine ⟨(x.1 + 1, x.2.1, x.2.2), (ai_cons (t := 8) rfl (ai_cons (t := 21) rfl (ai_cons (t := 3) rfl (ai_cons (t := 19) rfl (ai_cons (t := 20) rfl ai_nil))))), ?_, ?_⟩
            · skip
              exact ⟨hx0, hs, n2b, ow, (by omega), ⟨by omega, over_no hov (by assumption) (by assumption)⟩⟩
            · omega
          · try simp only [decide_eq_true_eq, decide_eq_false_iff_not, Bool.and_eq_true, Bool.and_eq_false_iff, Bool.or_eq_true, Bool.or_eq_false_iff, Bool.not_eq_true', Bool.not_eq_false', Bool.not_eq_true, Bool.not_eq_false, beq_iff_eq, Int.not_lt, Int.not_le] at hc19
            refine hw_seq ?_
            refine hw_region ?_
            refine hl_v (v_assign rfl) rfl ?_
            refine hl_v (v_assign rfl) rfl ?_
            refine hl_nil ?_
            refine thenQ_n ?_
            refine hw_sub _ (ai_cons (t := 4) rfl (ai_cons (t := 5) rfl ai_nil)) ?_
            refine hw_ret ?_
            refine blockQ_r ?_
            refine blockQ_r ?_
            refine thenQ_r ?_
            refine thenQ_r ?_
            refine blockQ_r ?_
            refine thenQ_r ?_
            refine ret_i _ (ra_t rfl (ra_t rfl ra_nil)) ?_
            rw [over_bad (by omega) hov (by assumption) (by assumption)]
            exact ⟨_, rfl, Ow.nil, hx0⟩
      · try simp only [decide_eq_true_eq, decide_eq_false_iff_not, Bool.and_eq_true, Bool.and_eq_false_iff, Bool.or_eq_true, Bool.or_eq_false_iff, Bool.not_eq_true', Bool.not_eq_false', Bool.not_eq_true, Bool.not_eq_false, beq_iff_eq, Int.not_lt, Int.not_le] at hc6
        refine hw_exit ?_
        refine thenQ_e ?_
        refine thenQ_e ?_
        refine blockQ_hit ?_
        refine thenQ_n ?_
        refine hw_seq ?_
        refine hw_region ?_
        refine hl_v (v_move rfl) rfl ?_
        refine hl_v (v_assign rfl) rfl ?_
        refine hl_v (v_assign rfl) rfl ?_
        refine hl_nil ?_
        refine thenQ_n ?_
        refine hw_sub _ (ai_cons (t := 4) rfl (ai_cons (t := 5) rfl ai_nil)) ?_
        refine hw_ret ?_
        refine ret_i _ (ra_t rfl (ra_t rfl ra_nil)) ?_
        rw [overB_ok (s := s) (r := x.2.2) hrt (by rw [show l.length = x.1 by omega]; exact hov)]
        exact ⟨_, rfl, ow.base (by omega), hx0⟩

end Go.Proofs.Ytbfgjdhdohfacaa
