/- Walks of layer 3 (text). No condition. -/
import Derived.Test.YtbfgjdhdohfacaaProg
import Derived.Test.YtbfgjdhdohfacaaOwn2
import Derived.Test.YtbfgjdhdohfacaaHeld
import Derived.Test.YtbfgjdhdohfacaaPlain03
set_option linter.unusedVariables false
set_option linter.unusedSimpArgs false
namespace Go.Proofs.Ytbfgjdhdohfacaa
open Go.Proofs
theorem Try.mixed : Try.prog.follows .mixedOrders = true := by kernel_rfl
theorem common_spec {a b : List UInt8} {H : Heap} (ha : a.length ≤ 9223372036854775807) (hb : b.length ≤ 9223372036854775807) : HC Try.prog 48 [str a, str b] H (fun v H' => v = .int .i64 (lcp a b) ∧ H' = H) := by
  refine hc_of_hw (N := 28) (rs := [(.tmp 4)]) Try.func48 rfl rfl rfl rfl ?_
  refine hw_seq ?_
  refine hw_region ?_
  refine hl_v (v_assign rfl) rfl ?_
  refine hl_nil ?_
  refine thenQ_n ?_
  refine hw_sub _ (ai_cons (t := 0) rfl (ai_cons (t := 1) rfl ai_nil)) ?_
  refine hw_seq ?_
  refine hw_region ?_
  refine hl_v (v_assign rfl) rfl ?_
  refine hl_nil ?_
  refine thenQ_n ?_
  refine hw_sub _ (ai_cons (t := 0) rfl (ai_cons (t := 1) rfl (ai_cons (t := 5) rfl ai_nil))) ?_
  refine hw_seq ?_
  refine hw_block ?_
  refine hw_loop (α := Nat) [(0, _), (1, _)] (fun k => [(5, .int .i64 (k : Int))]) (fun k H3 => H3 = H ∧ k ≤ a.length ∧ k ≤ b.length ∧ lcp a b = k + lcp (a.drop k) (b.drop k)) (fun k => a.length - k) 0 (ai_cons (t := 5) rfl (ai_cons (t := 0) rfl (ai_cons (t := 1) rfl ai_nil))) ?_ ?_
  · exact ⟨rfl, Nat.zero_le _, Nat.zero_le _, by simp⟩
  · intro k H3 hI
    obtain ⟨rfl, hk1, hk2, hk3⟩ := hI
    refine hw_seq ?_
    refine hw_seq ?_
    refine hw_quiet Try.mixed (by kernel_rfl) ?_
    refine hq_v (v_move rfl) rfl ?_
    refine hq_v (v_move rfl) rfl ?_
    refine hq_v (v_lenS rfl Try.underlying9 rfl) rfl ?_
    refine hq_v (v_lss rfl rfl) rfl ?_
    refine hq_v (v_move rfl) rfl ?_
    refine hq_g rfl rfl (fun hg => (v_move rfl)) rfl ?_
    refine hq_g rfl rfl (fun hg => (v_move rfl)) rfl ?_
    refine hq_g rfl rfl (fun hg => (v_lenS rfl Try.underlying9 (gv_ok rfl hg))) rfl ?_
    refine hq_g rfl rfl (fun hg => (v_lss (gv_ok rfl hg) (gv_ok rfl hg))) rfl ?_
    refine hq_v (v_and rfl rfl) rfl ?_
    refine hq_v (v_move rfl) rfl ?_
    refine hq_g rfl rfl (fun hg => (v_move rfl)) rfl ?_
    refine hq_g rfl rfl (fun hg => (v_move rfl)) rfl ?_
    refine hq_g rfl rfl (fun hg => (v_idxS Try.underlying9 (gv_ok rfl hg) (gv_ok rfl hg) (by simp only [gb_t, gb_f, gb_g, decide_eq_true_eq, decide_eq_false_iff_not, Bool.and_eq_true, Bool.and_eq_false_iff, Bool.or_eq_true, Bool.or_eq_false_iff, Bool.not_eq_true', Bool.not_eq_false', Bool.not_eq_true, Bool.not_eq_false, beq_iff_eq, Int.not_lt, Int.not_le] at hg; (first | omega | assumption | (simp; done) | (simp at *; omega))))) rfl ?_
    refine hq_g rfl rfl (fun hg => (v_move rfl)) rfl ?_
    refine hq_g rfl rfl (fun hg => (v_move rfl)) rfl ?_
    refine hq_g rfl rfl (fun hg => (v_idxS Try.underlying9 (gv_ok rfl hg) (gv_ok rfl hg) (by simp only [gb_t, gb_f, gb_g, decide_eq_true_eq, decide_eq_false_iff_not, Bool.and_eq_true, Bool.and_eq_false_iff, Bool.or_eq_true, Bool.or_eq_false_iff, Bool.not_eq_true', Bool.not_eq_false', Bool.not_eq_true, Bool.not_eq_false, beq_iff_eq, Int.not_lt, Int.not_le] at hg; (first | omega | assumption | (simp; done) | (simp at *; omega))))) rfl ?_
    refine hq_g rfl rfl (fun hg => (v_eql (gv_ok rfl hg) (gv_ok rfl hg))) rfl ?_
    refine hq_v (v_and rfl rfl) rfl ?_
    refine hq_nil ?_
    refine thenQ_n ?_
    refine hw_sub _ (ai_cons (t := 0) rfl (ai_cons (t := 1) rfl (ai_cons (t := 5) rfl (ai_cons (t := 24) rfl ai_nil)))) ?_
    refine hw_cond rfl (fun hc1 => ?_) (fun hc1 => ?_)
    · try simp only [decide_eq_true_eq, decide_eq_false_iff_not, Bool.and_eq_true, Bool.and_eq_false_iff, Bool.or_eq_true, Bool.or_eq_false_iff, Bool.not_eq_true', Bool.not_eq_false', Bool.not_eq_true, Bool.not_eq_false, beq_iff_eq, Int.not_lt, Int.not_le] at hc1
      refine hw_skip ?_
      refine thenQ_n ?_
      refine hw_block ?_
      refine hw_region ?_
      refine hl_v (v_move rfl) rfl ?_
      refine hl_v (v_add rfl rfl (by first | omega | assumption | (simp; done) | (simp at *; omega))) rfl ?_
      refine hl_v (v_assign rfl) rfl ?_
      refine hl_nil ?_
      refine blockQ_n ?_
      refine thenQ_n ?_
      refine ⟨k + 1, (ai_cons (t := 5) rfl (ai_cons (t := 0) rfl (ai_cons (t := 1) rfl ai_nil))), ?_, ?_⟩
      · exact ⟨rfl, by omega, by omega, by rw [hk3, lcp_step (by omega) (by omega) (by obtain ⟨_, e⟩ := hc1; exact byte_eq e)]; omega⟩
      · omega
    · try simp only [decide_eq_true_eq, decide_eq_false_iff_not, Bool.and_eq_true, Bool.and_eq_false_iff, Bool.or_eq_true, Bool.or_eq_false_iff, Bool.not_eq_true', Bool.not_eq_false', Bool.not_eq_true, Bool.not_eq_false, beq_iff_eq, Int.not_lt, Int.not_le] at hc1
      refine hw_exit ?_
      refine thenQ_e ?_
      refine thenQ_e ?_
      refine blockQ_hit ?_
      refine thenQ_n ?_
      refine hw_seq ?_
      refine hw_region ?_
      refine hl_v (v_move rfl) rfl ?_
      refine hl_v (v_assign rfl) rfl ?_
      refine hl_nil ?_
      refine thenQ_n ?_
      refine hw_sub _ (ai_cons (t := 4) rfl ai_nil) ?_
      refine hw_ret ?_
      refine ret_i _ (ra_t rfl ra_nil) ?_
      refine ⟨?_, rfl⟩
      have := lcp_stop (a := a) (b := b) (k := k) (by rcases hc1 with (h | h) | h; exact .inl (.inl (by omega)); exact .inl (.inr (by omega)); exact .inr (fun e => h (by rw [show (k : Int).toNat = k from rfl, e])))
      simp only [tup]; congr 1; omega

theorem Lag_spec {a b : List UInt8} {H : Heap} (ha : a.length ≤ 9223372036854775807) (hb : b.length ≤ 9223372036854775807) : HC Try.prog 14 [str a, str b] H (fun v H' => v = .tuple #[str (a.drop (lcp a b)), str (b.drop (lcp a b))] ∧ H' = H) := by
  refine hc_of_hw (N := 16) (rs := [(.tmp 4), (.tmp 5)]) Try.func14 rfl rfl rfl rfl ?_
  refine hw_seq ?_
  refine hw_region ?_
  refine hl_v (v_assign rfl) rfl ?_
  refine hl_v (v_assign rfl) rfl ?_
  refine hl_nil ?_
  refine thenQ_n ?_
  refine hw_sub _ (ai_cons (t := 0) rfl (ai_cons (t := 1) rfl ai_nil)) ?_
  refine hw_seq ?_
  refine hw_region ?_
  refine hl_v (v_move rfl) rfl ?_
  refine hl_v (v_move rfl) rfl ?_
  refine hl_v (v_call Try.call48 (evs_cons rfl (evs_cons rfl evs_nil)) (common_spec (by first | omega | assumption | (simp; done) | (simp at *; omega)) (by first | omega | assumption | (simp; done) | (simp at *; omega)))) rfl ?_
  refine hl_v (v_assign rfl) rfl ?_
  refine hl_nil ?_
  refine thenQ_n ?_
  refine hw_sub _ (ai_cons (t := 0) rfl (ai_cons (t := 1) rfl (ai_cons (t := 6) rfl ai_nil))) ?_
  refine hw_seq ?_
  have h1 := lcp_le1 a b
  have h2 := lcp_le2 a b
  refine hw_quiet Try.mixed (by kernel_rfl) ?_
  refine hq_v (v_move rfl) rfl ?_
  refine hq_v (v_move rfl) rfl ?_
  refine hq_v (v_sliceSl Try.underlying9 rfl rfl (by first | omega | assumption | (simp; done) | (simp at *; omega))) rfl ?_
  refine hq_v (v_move rfl) rfl ?_
  refine hq_v (v_move rfl) rfl ?_
  refine hq_v (v_sliceSl Try.underlying9 rfl rfl (by first | omega | assumption | (simp; done) | (simp at *; omega))) rfl ?_
  refine hq_v (v_assign rfl) rfl ?_
  refine hq_v (v_assign rfl) rfl ?_
  refine hq_nil ?_
  refine thenQ_n ?_
  refine hw_sub _ (ai_cons (t := 4) rfl (ai_cons (t := 5) rfl ai_nil)) ?_
  refine hw_ret ?_
  refine ret_i _ (ra_t rfl (ra_t rfl ra_nil)) ?_
  exact ⟨rfl, rfl⟩

theorem Lcp_spec {v0 : Value} {l : List (List UInt8)} {S : Nat → Prop} {H : Heap} (hs : Sl fStr.rep H S v0 l) (hl : ∀ s ∈ l, s.length ≤ 9223372036854775807) : HC Try.prog 15 [v0] H (fun v H' => v = str (lcpAll l) ∧ H' = H) := by
  have hcap := hs.cap
  refine hc_of_hw (N := 26) (rs := [(.tmp 2)]) Try.func15 rfl rfl rfl rfl ?_
  refine hw_seq ?_
  refine hw_region ?_
  refine hl_v (v_assign rfl) rfl ?_
  refine hl_nil ?_
  refine thenQ_n ?_
  refine hw_sub _ (ai_cons (t := 0) rfl ai_nil) ?_
  refine hw_seq ?_
  refine hw_seq ?_
  refine hw_region ?_
  refine hl_v (v_move rfl) rfl ?_
  refine hl_v (v_lenL rfl Try.underlying25 rfl (by first | assumption | exact Ow.sl0 (by assumption))) rfl ?_
  refine hl_v (v_eql rfl rfl) rfl ?_
  refine hl_nil ?_
  refine thenQ_n ?_
  refine hw_sub _ (ai_cons (t := 0) rfl (ai_cons (t := 8) rfl ai_nil)) ?_
  refine hw_cond rfl (fun hc1 => ?_) (fun hc1 => ?_)
  · try simp only [decide_eq_true_eq, decide_eq_false_iff_not, Bool.and_eq_true, Bool.and_eq_false_iff, Bool.or_eq_true, Bool.or_eq_false_iff, Bool.not_eq_true', Bool.not_eq_false', Bool.not_eq_true, Bool.not_eq_false, beq_iff_eq, Int.not_lt, Int.not_le] at hc1
    obtain rfl : l = [] := List.eq_nil_of_length_eq_zero (by omega)
    refine hw_seq ?_
    refine hw_region ?_
    refine hl_v (v_assign rfl) rfl ?_
    refine hl_nil ?_
    refine thenQ_n ?_
    refine hw_sub _ (ai_cons (t := 2) rfl ai_nil) ?_
    refine hw_ret ?_
    refine thenQ_r ?_
    refine ret_i _ (ra_t rfl ra_nil) ?_
    exact ⟨rfl, rfl⟩
  · try simp only [decide_eq_true_eq, decide_eq_false_iff_not, Bool.and_eq_true, Bool.and_eq_false_iff, Bool.or_eq_true, Bool.or_eq_false_iff, Bool.not_eq_true', Bool.not_eq_false', Bool.not_eq_true, Bool.not_eq_false, beq_iff_eq, Int.not_lt, Int.not_le] at hc1
    obtain ⟨s0, r, rfl⟩ : ∃ s0 r, l = s0 :: r := by cases l with | nil => simp at hc1 | cons s0 r => exact ⟨s0, r, rfl⟩
    have hlen : (s0 :: r).length = r.length + 1 := rfl
    refine hw_skip ?_
    refine thenQ_n ?_
    refine hw_seq ?_
    refine hw_region ?_
    refine hl_v (v_move rfl) rfl ?_
    refine hl_v (v_ixL Try.underlying25 Try.sizeOf9 rfl rfl (by first | assumption | exact Ow.sl0 (by assumption)) (by first | omega | assumption | (simp; done) | (simp at *; omega))) rfl ?_
    refine hl_v (v_loadSc Try.isAgg9 rfl (by first | assumption | exact Ow.sl0 (by assumption)) rfl (by first | omega | assumption | (simp; done) | (simp at *; omega)) rfl) rfl ?_
    refine hl_v (v_assign rfl) rfl ?_
    refine hl_nil ?_
    refine thenQ_n ?_
    refine hw_sub _ (ai_cons (t := 0) rfl (ai_cons (t := 3) rfl ai_nil)) ?_
    refine hw_seq ?_
    refine hw_seq ?_
    have hs1 := hs.slvl (lo := 1) (by omega) rfl
    rw [show (s0 :: r).drop 1 = r from rfl] at hs1
    refine hw_region ?_
    refine hl_v (v_move rfl) rfl ?_
    refine hl_v (v_sliceLl Try.underlying25 Try.sizeOf9 rfl rfl (by first | assumption | exact Ow.sl0 (by assumption)) (by first | omega | assumption | (simp; done) | (simp at *; omega))) rfl ?_
    refine hl_v (v_lenL (l := r) rfl Try.underlying25 rfl hs1) rfl ?_
    refine hl_v (v_move rfl) rfl ?_
    refine hl_nil ?_
    refine thenQ_n ?_
    refine hw_sub _ (ai_cons (t := 3) rfl (ai_cons (t := 13) rfl (ai_cons (t := 14) rfl (ai_cons (t := 15) rfl ai_nil)))) ?_
    refine hw_block ?_
    refine hw_loop (α := Nat) [(13, _), (14, _)] (fun k => [(3, str (lcpOf s0 (r.take k))), (15, .int .i64 (k : Int))]) (fun k H6 => H6 = H ∧ k ≤ r.length) (fun k => r.length - k) 0 (ai_cons (t := 3) rfl (ai_cons (t := 15) rfl (ai_cons (t := 13) rfl (ai_cons (t := 14) rfl ai_nil)))) ?_ ?_
    · exact ⟨rfl, Nat.zero_le _⟩
    · intro k H6 hI
      obtain ⟨rfl, hk⟩ := hI
      refine hw_seq ?_
      refine hw_region ?_
      refine hl_v (v_lss rfl rfl) rfl ?_
      refine hl_nil ?_
      refine thenQ_n ?_
      refine hw_sub _ (ai_cons (t := 3) rfl (ai_cons (t := 13) rfl (ai_cons (t := 14) rfl (ai_cons (t := 15) rfl (ai_cons (t := 16) rfl ai_nil))))) ?_
      refine hw_seq ?_
      refine hw_cond rfl (fun hc2 => ?_) (fun hc2 => ?_)
      · try simp only [decide_eq_true_eq, decide_eq_false_iff_not, Bool.and_eq_true, Bool.and_eq_false_iff, Bool.or_eq_true, Bool.or_eq_false_iff, Bool.not_eq_true', Bool.not_eq_false', Bool.not_eq_true, Bool.not_eq_false, beq_iff_eq, Int.not_lt, Int.not_le] at hc2
        refine hw_skip ?_
        refine thenQ_n ?_
        refine hw_seq ?_
        refine hw_block ?_
        refine hw_seq ?_
        refine hw_region ?_
        refine hl_v (v_ixL (l := r) Try.underlying25 Try.sizeOf9 rfl rfl hs1 (by first | omega | assumption | (simp; done) | (simp at *; omega))) rfl ?_
        refine hl_v (v_loadSc (l := r) Try.isAgg9 rfl hs1 rfl (by first | omega | assumption | (simp; done) | (simp at *; omega)) rfl) rfl ?_
        refine hl_v (v_assign rfl) rfl ?_
        refine hl_nil ?_
        refine thenQ_n ?_
        refine hw_sub _ (ai_cons (t := 3) rfl (ai_cons (t := 5) rfl (ai_cons (t := 13) rfl (ai_cons (t := 14) rfl (ai_cons (t := 15) rfl ai_nil))))) ?_
        have hlk : (r.getD k default).length ≤ 9223372036854775807 := hl _ (by rw [List.getD, List.getElem?_eq_getElem (by omega)]; simp)
        have hl0 := lcpOf_len s0 (r.take k)
        have hs0 := hl s0 (by simp)
        have hq := lcp_le1 (lcpOf s0 (r.take k)) (r.getD k default)
        refine hw_region ?_
        refine hl_v (v_move rfl) rfl ?_
        refine hl_v (v_move rfl) rfl ?_
        refine hl_v (v_move rfl) rfl ?_
        refine hl_v (v_call Try.call48 (evs_cons rfl (evs_cons rfl evs_nil)) (common_spec (by first | omega | assumption | (simp; done) | (simp at *; omega)) (by first | omega | assumption | (simp; done) | (simp at *; omega)))) rfl ?_
        refine hl_v (v_sliceSh Try.underlying9 rfl rfl (by first | omega | assumption | (simp; done) | (simp at *; omega))) rfl ?_
        refine hl_v (v_assign rfl) rfl ?_
        refine hl_nil ?_
        refine blockQ_n ?_
        refine thenQ_n ?_
        refine hw_region ?_
        refine hl_v (v_add rfl rfl (by first | omega | assumption | (simp; done) | (simp at *; omega))) rfl ?_
        refine hl_v (v_move rfl) rfl ?_
        refine hl_nil ?_
        refine thenQ_n ?_
        refine ⟨k + 1, (ai_cons (t := 3) (by first | rfl | (show some _ = some _; rw [take_snoc (by omega), lcpOf_snoc]; rfl)) (ai_cons (t := 15) (by first | rfl | (show some _ = some _; rw [take_snoc (by omega), lcpOf_snoc]; rfl)) (ai_cons (t := 13) rfl (ai_cons (t := 14) rfl ai_nil)))), ?_, ?_⟩
        · exact ⟨rfl, by omega⟩
        · omega
      · try simp only [decide_eq_true_eq, decide_eq_false_iff_not, Bool.and_eq_true, Bool.and_eq_false_iff, Bool.or_eq_true, Bool.or_eq_false_iff, Bool.not_eq_true', Bool.not_eq_false', Bool.not_eq_true, Bool.not_eq_false, beq_iff_eq, Int.not_lt, Int.not_le] at hc2
        refine hw_exit ?_
        refine thenQ_e ?_
        refine thenQ_e ?_
        refine blockQ_hit ?_
        refine thenQ_n ?_
        refine hw_seq ?_
        refine hw_region ?_
        refine hl_v (v_move rfl) rfl ?_
        refine hl_v (v_assign rfl) rfl ?_
        refine hl_nil ?_
        refine thenQ_n ?_
        refine hw_sub _ (ai_cons (t := 2) rfl ai_nil) ?_
        refine hw_ret ?_
        refine ret_i _ (ra_t rfl ra_nil) ?_
        refine ⟨?_, rfl⟩
        rw [show k = r.length by omega, List.take_length]; rfl

theorem sHasPrefix_spec {a b : List UInt8} {H : Heap} (ha : a.length ≤ 9223372036854775807) (hb : b.length ≤ 9223372036854775807) : HC Try.prog 66 [str a, str b] H (fun v H' => v = .bool (b.isPrefixOf a) ∧ H' = H) := by
  refine hc_of_hw (N := 18) (rs := [(.tmp 4)]) Try.func66 rfl rfl rfl rfl ?_
  refine hw_seq ?_
  refine hw_region ?_
  refine hl_v (v_assign rfl) rfl ?_
  refine hl_nil ?_
  refine thenQ_n ?_
  refine hw_sub _ (ai_cons (t := 0) rfl (ai_cons (t := 1) rfl ai_nil)) ?_
  refine hw_seq ?_
  refine hw_region ?_
  refine hl_v (v_move rfl) rfl ?_
  refine hl_v (v_lenS rfl Try.underlying9 rfl) rfl ?_
  refine hl_v (v_move rfl) rfl ?_
  refine hl_v (v_lenS rfl Try.underlying9 rfl) rfl ?_
  refine hl_v (v_geq rfl rfl) rfl ?_
  refine hl_v (v_move rfl) rfl ?_
  refine hl_g rfl rfl (fun hg => (v_move rfl)) rfl ?_
  refine hl_g rfl rfl (fun hg => (v_move rfl)) rfl ?_
  refine hl_g rfl rfl (fun hg => (v_lenS rfl Try.underlying9 (gv_ok rfl hg))) rfl ?_
  refine hl_g rfl rfl (fun hg => (v_sliceSh Try.underlying9 (gv_ok rfl hg) (gv_ok rfl hg) (by simp only [gb_t, gb_f, gb_g, decide_eq_true_eq, decide_eq_false_iff_not, Bool.and_eq_true, Bool.and_eq_false_iff, Bool.or_eq_true, Bool.or_eq_false_iff, Bool.not_eq_true', Bool.not_eq_false', Bool.not_eq_true, Bool.not_eq_false, beq_iff_eq, Int.not_lt, Int.not_le] at hg; (first | omega | assumption | (simp; done) | (simp at *; omega))))) rfl ?_
  refine hl_g rfl rfl (fun hg => (v_move rfl)) rfl ?_
  refine hl_g rfl rfl (fun hg => (v_eqlS (gv_ok rfl hg) (gv_ok rfl hg))) rfl ?_
  refine hl_v (v_and rfl rfl) rfl ?_
  refine hl_v (v_assign rfl) rfl ?_
  refine hl_nil ?_
  refine thenQ_n ?_
  refine hw_sub _ (ai_cons (t := 4) rfl ai_nil) ?_
  refine hw_ret ?_
  refine ret_i _ (ra_t rfl ra_nil) ?_
  exact ⟨by rw [← pre_eq]; rfl, rfl⟩

theorem HasPrefix_spec {a b : List UInt8} {H : Heap} (ha : a.length ≤ 9223372036854775807) (hb : b.length ≤ 9223372036854775807) : HC Try.prog 62 [str a, str b] H (fun v H' => v = .bool (b.isPrefixOf a) ∧ H' = H) := by
  refine hc_of_hw (N := 8) (rs := [(.tmp 4)]) Try.func62 rfl rfl rfl rfl ?_
  refine hw_seq ?_
  refine hw_region ?_
  refine hl_v (v_assign rfl) rfl ?_
  refine hl_nil ?_
  refine thenQ_n ?_
  refine hw_sub _ (ai_cons (t := 0) rfl (ai_cons (t := 1) rfl ai_nil)) ?_
  refine hw_seq ?_
  refine hw_region ?_
  refine hl_v (v_move rfl) rfl ?_
  refine hl_v (v_move rfl) rfl ?_
  refine hl_v (v_call Try.call66 (evs_cons rfl (evs_cons rfl evs_nil)) (sHasPrefix_spec (by first | omega | assumption | (simp; done) | (simp at *; omega)) (by first | omega | assumption | (simp; done) | (simp at *; omega)))) rfl ?_
  refine hl_v (v_assign rfl) rfl ?_
  refine hl_nil ?_
  refine thenQ_n ?_
  refine hw_sub _ (ai_cons (t := 4) rfl ai_nil) ?_
  refine hw_ret ?_
  refine ret_i _ (ra_t rfl ra_nil) ?_
  exact ⟨rfl, rfl⟩

theorem sCutPrefix_spec {a b : List UInt8} {H : Heap} (ha : a.length ≤ 9223372036854775807) (hb : b.length ≤ 9223372036854775807) : HC Try.prog 64 [str a, str b] H (fun v H' => v = .tuple #[str (if b.isPrefixOf a then a.drop b.length else a), .bool (b.isPrefixOf a)] ∧ H' = H) := by
  refine hc_of_hw (N := 15) (rs := [(.tmp 4), (.tmp 5)]) Try.func64 rfl rfl rfl rfl ?_
  refine hw_seq ?_
  refine hw_region ?_
  refine hl_v (v_assign rfl) rfl ?_
  refine hl_v (v_assign rfl) rfl ?_
  refine hl_nil ?_
  refine thenQ_n ?_
  refine hw_sub _ (ai_cons (t := 0) rfl (ai_cons (t := 1) rfl ai_nil)) ?_
  refine hw_seq ?_
  refine hw_seq ?_
  refine hw_region ?_
  refine hl_v (v_move rfl) rfl ?_
  refine hl_v (v_move rfl) rfl ?_
  refine hl_v (v_call Try.call66 (evs_cons rfl (evs_cons rfl evs_nil)) (sHasPrefix_spec (by first | omega | assumption | (simp; done) | (simp at *; omega)) (by first | omega | assumption | (simp; done) | (simp at *; omega)))) rfl ?_
  refine hl_v (v_not rfl) rfl ?_
  refine hl_nil ?_
  refine thenQ_n ?_
  refine hw_sub _ (ai_cons (t := 0) rfl (ai_cons (t := 1) rfl (ai_cons (t := 9) rfl ai_nil))) ?_
  refine hw_cond rfl (fun hc1 => ?_) (fun hc1 => ?_)
  · try simp only [decide_eq_true_eq, decide_eq_false_iff_not, Bool.and_eq_true, Bool.and_eq_false_iff, Bool.or_eq_true, Bool.or_eq_false_iff, Bool.not_eq_true', Bool.not_eq_false', Bool.not_eq_true, Bool.not_eq_false, beq_iff_eq, Int.not_lt, Int.not_le] at hc1
    refine hw_seq ?_
    refine hw_region ?_
    refine hl_v (v_move rfl) rfl ?_
    refine hl_v (v_assign rfl) rfl ?_
    refine hl_v (v_assign rfl) rfl ?_
    refine hl_nil ?_
    refine thenQ_n ?_
    refine hw_sub _ (ai_cons (t := 4) rfl (ai_cons (t := 5) rfl ai_nil)) ?_
    refine hw_ret ?_
    refine thenQ_r ?_
    refine ret_i _ (ra_t rfl (ra_t rfl ra_nil)) ?_
    exact ⟨by simp only [tup, hc1]; rfl, rfl⟩
  · try simp only [decide_eq_true_eq, decide_eq_false_iff_not, Bool.and_eq_true, Bool.and_eq_false_iff, Bool.or_eq_true, Bool.or_eq_false_iff, Bool.not_eq_true', Bool.not_eq_false', Bool.not_eq_true, Bool.not_eq_false, beq_iff_eq, Int.not_lt, Int.not_le] at hc1
    refine hw_skip ?_
    refine thenQ_n ?_
    refine hw_seq ?_
    have hp : b.length ≤ a.length := (List.isPrefixOf_iff_prefix.1 hc1).length_le
    refine hw_region ?_
    refine hl_v (v_move rfl) rfl ?_
    refine hl_v (v_move rfl) rfl ?_
    refine hl_v (v_lenS rfl Try.underlying9 rfl) rfl ?_
    refine hl_v (v_sliceSl Try.underlying9 rfl rfl (by first | omega | assumption | (simp; done) | (simp at *; omega))) rfl ?_
    refine hl_v (v_assign rfl) rfl ?_
    refine hl_v (v_assign rfl) rfl ?_
    refine hl_nil ?_
    refine thenQ_n ?_
    refine hw_sub _ (ai_cons (t := 4) rfl (ai_cons (t := 5) rfl ai_nil)) ?_
    refine hw_ret ?_
    refine ret_i _ (ra_t rfl (ra_t rfl ra_nil)) ?_
    exact ⟨by simp only [tup, hc1]; rfl, rfl⟩

theorem CutPrefix_spec {a b : List UInt8} {H : Heap} (ha : a.length ≤ 9223372036854775807) (hb : b.length ≤ 9223372036854775807) : HC Try.prog 55 [str a, str b] H (fun v H' => v = .tuple #[str (if b.isPrefixOf a then a.drop b.length else a), .bool (b.isPrefixOf a)] ∧ H' = H) := by
  refine hc_of_hw (N := 11) (rs := [(.tmp 4), (.tmp 5)]) Try.func55 rfl rfl rfl rfl ?_
  refine hw_seq ?_
  refine hw_region ?_
  refine hl_v (v_assign rfl) rfl ?_
  refine hl_v (v_assign rfl) rfl ?_
  refine hl_nil ?_
  refine thenQ_n ?_
  refine hw_sub _ (ai_cons (t := 0) rfl (ai_cons (t := 1) rfl ai_nil)) ?_
  refine hw_seq ?_
  refine hw_region ?_
  refine hl_v (v_move rfl) rfl ?_
  refine hl_v (v_move rfl) rfl ?_
  refine hl_v (v_call Try.call64 (evs_cons rfl (evs_cons rfl evs_nil)) (sCutPrefix_spec (by first | omega | assumption | (simp; done) | (simp at *; omega)) (by first | omega | assumption | (simp; done) | (simp at *; omega)))) rfl ?_
  refine hl_v (v_extract rfl rfl) rfl ?_
  refine hl_v (v_extract rfl rfl) rfl ?_
  refine hl_v (v_assign rfl) rfl ?_
  refine hl_v (v_assign rfl) rfl ?_
  refine hl_nil ?_
  refine thenQ_n ?_
  refine hw_sub _ (ai_cons (t := 4) rfl (ai_cons (t := 5) rfl ai_nil)) ?_
  refine hw_ret ?_
  refine ret_i _ (ra_t rfl (ra_t rfl ra_nil)) ?_
  exact ⟨rfl, rfl⟩

theorem Strip_spec {a b : List UInt8} {H : Heap} (ha : a.length ≤ 9223372036854775807) (hb : b.length ≤ 9223372036854775807) : HC Try.prog 27 [str a, str b] H (fun v H' => v = .tuple #[str (if a.isPrefixOf b then b.drop a.length else []), .int .i64 (if a.isPrefixOf b then 0 else 1)] ∧ H' = H) := by
  refine hc_of_hw (N := 17) (rs := [(.tmp 4), (.tmp 5)]) Try.func27 rfl rfl rfl rfl ?_
  refine hw_seq ?_
  refine hw_region ?_
  refine hl_v (v_assign rfl) rfl ?_
  refine hl_v (v_assign rfl) rfl ?_
  refine hl_nil ?_
  refine thenQ_n ?_
  refine hw_sub _ (ai_cons (t := 0) rfl (ai_cons (t := 1) rfl ai_nil)) ?_
  refine hw_seq ?_
  refine hw_region ?_
  refine hl_v (v_move rfl) rfl ?_
  refine hl_v (v_move rfl) rfl ?_
  refine hl_v (v_call Try.call55 (evs_cons rfl (evs_cons rfl evs_nil)) (CutPrefix_spec (by first | omega | assumption | (simp; done) | (simp at *; omega)) (by first | omega | assumption | (simp; done) | (simp at *; omega)))) rfl ?_
  refine hl_v (v_move rfl) rfl ?_
  refine hl_v (v_extract rfl rfl) rfl ?_
  refine hl_v (v_extract rfl rfl) rfl ?_
  refine hl_v (v_assign rfl) rfl ?_
  refine hl_v (v_assign rfl) rfl ?_
  refine hl_nil ?_
  refine thenQ_n ?_
  refine hw_sub _ (ai_cons (t := 6) rfl (ai_cons (t := 7) rfl ai_nil)) ?_
  refine hw_seq ?_
  refine hw_seq ?_
  refine hw_region ?_
  refine hl_v (v_move rfl) rfl ?_
  refine hl_v (v_not rfl) rfl ?_
  refine hl_nil ?_
  refine thenQ_n ?_
  refine hw_sub _ (ai_cons (t := 6) rfl (ai_cons (t := 15) rfl ai_nil)) ?_
  refine hw_cond rfl (fun hc1 => ?_) (fun hc1 => ?_)
  · try simp only [decide_eq_true_eq, decide_eq_false_iff_not, Bool.and_eq_true, Bool.and_eq_false_iff, Bool.or_eq_true, Bool.or_eq_false_iff, Bool.not_eq_true', Bool.not_eq_false', Bool.not_eq_true, Bool.not_eq_false, beq_iff_eq, Int.not_lt, Int.not_le] at hc1
    refine hw_seq ?_
    refine hw_region ?_
    refine hl_v (v_assign rfl) rfl ?_
    refine hl_v (v_assign rfl) rfl ?_
    refine hl_nil ?_
    refine thenQ_n ?_
    refine hw_sub _ (ai_cons (t := 4) rfl (ai_cons (t := 5) rfl ai_nil)) ?_
    refine hw_ret ?_
    refine thenQ_r ?_
    refine ret_i _ (ra_t rfl (ra_t rfl ra_nil)) ?_
    exact ⟨by simp only [tup, hc1]; rfl, rfl⟩
  · try simp only [decide_eq_true_eq, decide_eq_false_iff_not, Bool.and_eq_true, Bool.and_eq_false_iff, Bool.or_eq_true, Bool.or_eq_false_iff, Bool.not_eq_true', Bool.not_eq_false', Bool.not_eq_true, Bool.not_eq_false, beq_iff_eq, Int.not_lt, Int.not_le] at hc1
    refine hw_skip ?_
    refine thenQ_n ?_
    refine hw_seq ?_
    refine hw_region ?_
    refine hl_v (v_move rfl) rfl ?_
    refine hl_v (v_assign rfl) rfl ?_
    refine hl_v (v_assign rfl) rfl ?_
    refine hl_nil ?_
    refine thenQ_n ?_
    refine hw_sub _ (ai_cons (t := 4) rfl (ai_cons (t := 5) rfl ai_nil)) ?_
    refine hw_ret ?_
    refine ret_i _ (ra_t rfl (ra_t rfl ra_nil)) ?_
    exact ⟨by simp only [tup, hc1]; rfl, rfl⟩

/-- at how many places -/
def cnt (s p : List UInt8) (n : Nat) : Nat := ((List.range n).filter fun i => p.isPrefixOf (s.drop i)).length
theorem cnt_succ (s p : List UInt8) (n : Nat) : cnt s p (n + 1) = cnt s p n + if p.isPrefixOf (s.drop n) then 1 else 0 := by
  unfold cnt; rw [List.range_succ, List.filter_append, List.length_append]
  congr 1; simp only [List.filter_cons, List.filter_nil]; split <;> rfl
theorem cnt_le (s p : List UInt8) (n : Nat) : cnt s p n ≤ n := by
  have := List.length_filter_le (fun i => p.isPrefixOf (s.drop i)) (List.range n); simpa [cnt] using this
theorem awake3 : (((decide (lcpAll [[97, 98, 99], [97, 98, 100], [97, 98]] = [97, 98]) && decide (([97, 98, 99] : List UInt8).drop (lcp [97, 98, 99] [97, 98, 100]) = [99])) && decide (([97, 98, 100] : List UInt8).drop (lcp [97, 98, 99] [97, 98, 100]) = [100])) && decide ((cnt [97, 97, 97] [97, 97] 4 : Int) = 2)) = true := by decide
def short (l : List (List UInt8)) : Bool := decide (l.length ≤ 60) && l.all fun s => decide (s.length ≤ 300)
theorem Count_spec {a b : List UInt8} {H : Heap} (ha : a.length ≤ 9223372036854775800) (hb : b.length ≤ 9223372036854775807) : HC Try.prog 49 [str a, str b] H (fun v H' => v = .int .i64 (cnt a b (a.length + 1)) ∧ H' = H) := by
  refine hc_of_hw (N := 22) (rs := [(.tmp 4)]) Try.func49 rfl rfl rfl rfl ?_
  refine hw_seq ?_
  refine hw_region ?_
  refine hl_v (v_assign rfl) rfl ?_
  refine hl_nil ?_
  refine thenQ_n ?_
  refine hw_sub _ (ai_cons (t := 0) rfl (ai_cons (t := 1) rfl ai_nil)) ?_
  refine hw_seq ?_
  refine hw_region ?_
  refine hl_v (v_assign rfl) rfl ?_
  refine hl_nil ?_
  refine thenQ_n ?_
  refine hw_sub _ (ai_cons (t := 0) rfl (ai_cons (t := 1) rfl (ai_cons (t := 5) rfl ai_nil))) ?_
  refine hw_seq ?_
  refine hw_seq ?_
  refine hw_region ?_
  refine hl_v (v_move rfl) rfl ?_
  refine hl_v (v_lenS rfl Try.underlying9 rfl) rfl ?_
  refine hl_v (v_add rfl rfl (by first | omega | assumption | (simp; done) | (simp at *; omega))) rfl ?_
  refine hl_v (v_move rfl) rfl ?_
  refine hl_nil ?_
  refine thenQ_n ?_
  refine hw_sub _ (ai_cons (t := 0) rfl (ai_cons (t := 1) rfl (ai_cons (t := 5) rfl (ai_cons (t := 9) rfl (ai_cons (t := 10) rfl ai_nil))))) ?_
  refine hw_block ?_
  refine hw_loop (α := Nat) [(0, _), (1, _), (9, _)] (fun k => [(5, .int .i64 (cnt a b k)), (10, .int .i64 (k : Int))]) (fun k H4 => H4 = H ∧ k ≤ a.length + 1) (fun k => a.length + 1 - k) 0 (ai_cons (t := 5) rfl (ai_cons (t := 10) rfl (ai_cons (t := 0) rfl (ai_cons (t := 1) rfl (ai_cons (t := 9) rfl ai_nil))))) ?_ ?_
  · exact ⟨rfl, Nat.zero_le _⟩
  · intro k H4 hI
    obtain ⟨rfl, hk⟩ := hI
    refine hw_seq ?_
    refine hw_region ?_
    refine hl_v (v_lss rfl rfl) rfl ?_
    refine hl_nil ?_
    refine thenQ_n ?_
    refine hw_sub _ (ai_cons (t := 0) rfl (ai_cons (t := 1) rfl (ai_cons (t := 5) rfl (ai_cons (t := 9) rfl (ai_cons (t := 10) rfl (ai_cons (t := 11) rfl ai_nil)))))) ?_
    refine hw_seq ?_
    refine hw_cond rfl (fun hc1 => ?_) (fun hc1 => ?_)
    · try simp only [decide_eq_true_eq, decide_eq_false_iff_not, Bool.and_eq_true, Bool.and_eq_false_iff, Bool.or_eq_true, Bool.or_eq_false_iff, Bool.not_eq_true', Bool.not_eq_false', Bool.not_eq_true, Bool.not_eq_false, beq_iff_eq, Int.not_lt, Int.not_le] at hc1
      refine hw_skip ?_
      refine thenQ_n ?_
      refine hw_seq ?_
      refine hw_block ?_
      refine hw_seq ?_
      refine hw_region ?_
      refine hl_v (v_move rfl) rfl ?_
      refine hl_v (v_assign rfl) rfl ?_
      refine hl_nil ?_
      refine thenQ_n ?_
      refine hw_sub _ (ai_cons (t := 0) rfl (ai_cons (t := 1) rfl (ai_cons (t := 5) rfl (ai_cons (t := 6) rfl (ai_cons (t := 9) rfl (ai_cons (t := 10) rfl ai_nil)))))) ?_
      refine hw_seq ?_
      have hd : (a.drop k).length ≤ a.length := by simp
      refine hw_region ?_
      refine hl_v (v_move rfl) rfl ?_
      refine hl_v (v_move rfl) rfl ?_
      refine hl_v (v_sliceSl Try.underlying9 rfl rfl (by first | omega | assumption | (simp; done) | (simp at *; omega))) rfl ?_
      refine hl_v (v_move rfl) rfl ?_
      refine hl_v (v_call Try.call62 (evs_cons rfl (evs_cons rfl evs_nil)) (HasPrefix_spec (by first | omega | assumption | (simp; done) | (simp at *; omega)) (by first | omega | assumption | (simp; done) | (simp at *; omega)))) rfl ?_
      refine hl_nil ?_
      refine thenQ_n ?_
      refine hw_sub _ (ai_cons (t := 0) rfl (ai_cons (t := 1) rfl (ai_cons (t := 5) rfl (ai_cons (t := 9) rfl (ai_cons (t := 10) rfl (ai_cons (t := 17) rfl ai_nil)))))) ?_
      refine hw_cond rfl (fun hc2 => ?_) (fun hc2 => ?_)
      · try simp only [decide_eq_true_eq, decide_eq_false_iff_not, Bool.and_eq_true, Bool.and_eq_false_iff, Bool.or_eq_true, Bool.or_eq_false_iff, Bool.not_eq_true', Bool.not_eq_false', Bool.not_eq_true, Bool.not_eq_false, beq_iff_eq, Int.not_lt, Int.not_le] at hc2
        have hcl := cnt_le a b k
        refine hw_region ?_
        refine hl_v (v_move rfl) rfl ?_
        refine hl_v (v_add rfl rfl (by first | omega | assumption | (simp; done) | (simp at *; omega))) rfl ?_
        refine hl_v (v_assign rfl) rfl ?_
        refine hl_nil ?_
        refine blockQ_n ?_
        refine thenQ_n ?_
        refine hw_region ?_
        refine hl_v (v_add rfl rfl (by first | omega | assumption | (simp; done) | (simp at *; omega))) rfl ?_
        refine hl_v (v_move rfl) rfl ?_
        refine hl_nil ?_
        refine thenQ_n ?_
        refine ⟨k + 1, (ai_cons (t := 5) (by first | rfl | (show some _ = some _; rw [cnt_succ]; first | done | simp_all)) (ai_cons (t := 10) (by first | rfl | (show some _ = some _; rw [cnt_succ]; first | done | simp_all)) (ai_cons (t := 0) rfl (ai_cons (t := 1) rfl (ai_cons (t := 9) rfl ai_nil))))), ?_, ?_⟩
        · exact ⟨rfl, by omega⟩
        · omega
      · try simp only [decide_eq_true_eq, decide_eq_false_iff_not, Bool.and_eq_true, Bool.and_eq_false_iff, Bool.or_eq_true, Bool.or_eq_false_iff, Bool.not_eq_true', Bool.not_eq_false', Bool.not_eq_true, Bool.not_eq_false, beq_iff_eq, Int.not_lt, Int.not_le] at hc2
        refine hw_skip ?_
        refine blockQ_n ?_
        refine thenQ_n ?_
        refine hw_region ?_
        refine hl_v (v_add rfl rfl (by first | omega | assumption | (simp; done) | (simp at *; omega))) rfl ?_
        refine hl_v (v_move rfl) rfl ?_
        refine hl_nil ?_
        refine thenQ_n ?_
        refine ⟨k + 1, (ai_cons (t := 5) (by first | rfl | (show some _ = some _; rw [cnt_succ]; first | done | simp_all)) (ai_cons (t := 10) (by first | rfl | (show some _ = some _; rw [cnt_succ]; first | done | simp_all)) (ai_cons (t := 0) rfl (ai_cons (t := 1) rfl (ai_cons (t := 9) rfl ai_nil))))), ?_, ?_⟩
        · exact ⟨rfl, by omega⟩
        · omega
    · try simp only [decide_eq_true_eq, decide_eq_false_iff_not, Bool.and_eq_true, Bool.and_eq_false_iff, Bool.or_eq_true, Bool.or_eq_false_iff, Bool.not_eq_true', Bool.not_eq_false', Bool.not_eq_true, Bool.not_eq_false, beq_iff_eq, Int.not_lt, Int.not_le] at hc1
      refine hw_exit ?_
      refine thenQ_e ?_
      refine thenQ_e ?_
      refine blockQ_hit ?_
      refine thenQ_n ?_
      refine hw_seq ?_
      refine hw_region ?_
      refine hl_v (v_move rfl) rfl ?_
      refine hl_v (v_assign rfl) rfl ?_
      refine hl_nil ?_
      refine thenQ_n ?_
      refine hw_sub _ (ai_cons (t := 4) rfl ai_nil) ?_
      refine hw_ret ?_
      refine ret_i _ (ra_t rfl ra_nil) ?_
      refine ⟨?_, rfl⟩
      rw [show a.length + 1 = k by omega]; rfl

theorem awake3_spec {H : Heap} : HC Try.prog 16 [] H (fun v H' => v = .bool true ∧ Ext [] H H') := by
  have hx0 : Ext [] H H := Ext.refl _
  refine hc_of_hw (N := 22) (rs := [(.tmp 0)]) Try.func16 rfl rfl rfl rfl ?_
  refine hw_seq ?_
  refine hw_region ?_
  refine hl_v (v_assign rfl) rfl ?_
  refine hl_nil ?_
  refine thenQ_n ?_
  refine hw_sub _ ai_nil ?_
  refine hw_seq ?_
  refine hw_region ?_
  refine hl_v (v_call Try.call14 (evs_cons rfl (evs_cons rfl evs_nil)) (Lag_spec (by first | omega | assumption | (simp; done) | (simp at *; omega)) (by first | omega | assumption | (simp; done) | (simp at *; omega)))) rfl ?_
  refine hl_v (v_move rfl) rfl ?_
  refine hl_v (v_extract rfl rfl) rfl ?_
  refine hl_v (v_extract rfl rfl) rfl ?_
  refine hl_v (v_assign rfl) rfl ?_
  refine hl_v (v_assign rfl) rfl ?_
  refine hl_nil ?_
  refine thenQ_n ?_
  refine hw_sub _ (ai_cons (t := 1) rfl (ai_cons (t := 2) rfl ai_nil)) ?_
  refine hw_seq ?_
  refine hw_region ?_
  refine hl_h (h_buildSlice (xs := [_, _, _]) Try.underlying25 Try.sizeOf9 Try.zeroValue9 rfl (evs_cons rfl (evs_cons rfl (evs_cons rfl evs_nil))) rfl (by decide) (by decide) (by simp [str, Value.cells])) rfl ?_
  rintro _ H1 ⟨rfl, n2⟩
  have n2s := n2.size
  replace hx0 := Ext.trans hx0 n2.ext
  have n2o := Ow.new (g := fStr) (l := [_, _, _]) (B := H.size) n2 rfl (by omega) (by simp)
  refine hl_v (v_call Try.call15 (evs_cons rfl evs_nil) (Lcp_spec (by first | assumption | exact Ow.sl0 (by assumption)) (by first | omega | assumption | (simp; done) | (simp at *; omega)))) rfl ?_
  refine hl_v (v_eqlS rfl rfl) rfl ?_
  refine hl_v (v_move rfl) rfl ?_
  refine hl_g rfl rfl (fun hg => (v_move rfl)) rfl ?_
  refine hl_g rfl rfl (fun hg => (v_eqlS (gv_ok rfl hg) rfl)) rfl ?_
  refine hl_v (v_and rfl rfl) rfl ?_
  refine hl_v (v_move rfl) rfl ?_
  refine hl_g rfl rfl (fun hg => (v_move rfl)) rfl ?_
  refine hl_g rfl rfl (fun hg => (v_eqlS (gv_ok rfl hg) rfl)) rfl ?_
  refine hl_v (v_and rfl rfl) rfl ?_
  refine hl_v (v_move rfl) rfl ?_
  refine hl_g rfl rfl (fun hg => (v_call Try.call49 (evs_cons rfl (evs_cons rfl evs_nil)) (Count_spec (by first | omega | assumption | (simp; done) | (simp at *; omega)) (by first | omega | assumption | (simp; done) | (simp at *; omega))))) rfl ?_
  refine hl_g rfl rfl (fun hg => (v_eql (gv_ok rfl hg) rfl)) rfl ?_
  refine hl_v (v_and rfl rfl) rfl ?_
  refine hl_v (v_assign rfl) rfl ?_
  refine hl_nil ?_
  refine thenQ_n ?_
  refine hw_sub _ (ai_cons (t := 0) rfl ai_nil) ?_
  refine hw_ret ?_
  refine ret_i _ (ra_t rfl ra_nil) ?_
  exact ⟨congrArg Value.bool awake3, hx0⟩

theorem Short_spec {v0 : Value} {l : List (List UInt8)} {S : Nat → Prop} {H : Heap} (hs : Sl fStr.rep H S v0 l) : HC Try.prog 26 [v0] H (fun v H' => v = .bool (short l) ∧ H' = H) := by
  have hcap := hs.cap
  refine hc_of_hw (N := 24) (rs := [(.tmp 2)]) Try.func26 rfl rfl rfl rfl ?_
  refine hw_seq ?_
  refine hw_region ?_
  refine hl_v (v_assign rfl) rfl ?_
  refine hl_nil ?_
  refine thenQ_n ?_
  refine hw_sub _ (ai_cons (t := 0) rfl ai_nil) ?_
  refine hw_seq ?_
  refine hw_seq ?_
  refine hw_region ?_
  refine hl_v (v_assign rfl) rfl ?_
  refine hl_nil ?_
  refine thenQ_n ?_
  refine hw_sub _ (ai_cons (t := 0) rfl (ai_cons (t := 3) rfl ai_nil)) ?_
  refine hw_block ?_
  refine hw_loop (α := Nat) [(0, _)] (fun k => [(3, .int .i64 (k : Int))]) (fun k H3 => H3 = H ∧ k ≤ l.length ∧ (l.take k).all (fun s => decide (s.length ≤ 300)) = true) (fun k => l.length - k) 0 (ai_cons (t := 3) rfl (ai_cons (t := 0) rfl ai_nil)) ?_ ?_
  · exact ⟨rfl, Nat.zero_le _, rfl⟩
  · intro k H3 hI
    obtain ⟨rfl, hk, hall⟩ := hI
    refine hw_seq ?_
    refine hw_seq ?_
    refine hw_region ?_
    refine hl_v (v_move rfl) rfl ?_
    refine hl_v (v_move rfl) rfl ?_
    refine hl_v (v_lenL rfl Try.underlying25 rfl (by first | assumption | exact Ow.sl0 (by assumption))) rfl ?_
    refine hl_v (v_lss rfl rfl) rfl ?_
    refine hl_v (v_move rfl) rfl ?_
    refine hl_g rfl rfl (fun hg => (v_move rfl)) rfl ?_
    refine hl_g rfl rfl (fun hg => (v_lenL rfl Try.underlying25 (gv_ok rfl hg) (by first | assumption | exact Ow.sl0 (by assumption)))) rfl ?_
    refine hl_g rfl rfl (fun hg => (v_leq (gv_ok rfl hg) rfl)) rfl ?_
    refine hl_v (v_and rfl rfl) rfl ?_
    refine hl_nil ?_
    refine thenQ_n ?_
    refine hw_sub _ (ai_cons (t := 0) rfl (ai_cons (t := 3) rfl (ai_cons (t := 12) rfl ai_nil))) ?_
    refine hw_cond rfl (fun hc1 => ?_) (fun hc1 => ?_)
    · try simp only [decide_eq_true_eq, decide_eq_false_iff_not, Bool.and_eq_true, Bool.and_eq_false_iff, Bool.or_eq_true, Bool.or_eq_false_iff, Bool.not_eq_true', Bool.not_eq_false', Bool.not_eq_true, Bool.not_eq_false, beq_iff_eq, Int.not_lt, Int.not_le] at hc1
      refine hw_skip ?_
      refine thenQ_n ?_
      refine hw_seq ?_
      refine hw_block ?_
      refine hw_seq ?_
      refine hw_region ?_
      refine hl_v (v_move rfl) rfl ?_
      refine hl_v (v_move rfl) rfl ?_
      refine hl_v (v_ixL Try.underlying25 Try.sizeOf9 rfl rfl (by first | assumption | exact Ow.sl0 (by assumption)) (by first | omega | assumption | (simp; done) | (simp at *; omega))) rfl ?_
      refine hl_v (v_loadSc Try.isAgg9 rfl (by first | assumption | exact Ow.sl0 (by assumption)) rfl (by first | omega | assumption | (simp; done) | (simp at *; omega)) rfl) rfl ?_
      refine hl_v (v_lenS rfl Try.underlying9 rfl) rfl ?_
      refine hl_v (v_gtr rfl rfl) rfl ?_
      refine hl_nil ?_
      refine thenQ_n ?_
      refine hw_sub _ (ai_cons (t := 0) rfl (ai_cons (t := 3) rfl (ai_cons (t := 20) rfl ai_nil))) ?_
      refine hw_cond rfl (fun hc2 => ?_) (fun hc2 => ?_)
      · try simp only [decide_eq_true_eq, decide_eq_false_iff_not, Bool.and_eq_true, Bool.and_eq_false_iff, Bool.or_eq_true, Bool.or_eq_false_iff, Bool.not_eq_true', Bool.not_eq_false', Bool.not_eq_true, Bool.not_eq_false, beq_iff_eq, Int.not_lt, Int.not_le] at hc2
        refine hw_seq ?_
        refine hw_region ?_
        refine hl_v (v_assign rfl) rfl ?_
        refine hl_nil ?_
        refine thenQ_n ?_
        refine hw_sub _ (ai_cons (t := 2) rfl ai_nil) ?_
        refine hw_ret ?_
        refine blockQ_r ?_
        refine thenQ_r ?_
        refine thenQ_r ?_
        refine blockQ_r ?_
        refine thenQ_r ?_
        refine ret_i _ (ra_t rfl ra_nil) ?_
        refine ⟨congrArg Value.bool ?_, rfl⟩
        obtain ⟨h1, h2⟩ := hc1
        have h3 : ¬ (l.getD k default).length ≤ 300 := by have := hc2; simp only [Int.toNat_natCast] at this; omega
        symm
        unfold short
        rw [Bool.and_eq_false_iff]
        right
        rw [List.all_eq_false]
        exact ⟨l.getD k default, by rw [List.getD, List.getElem?_eq_getElem (by omega)]; simp, by simpa using h3⟩
      · try simp only [decide_eq_true_eq, decide_eq_false_iff_not, Bool.and_eq_true, Bool.and_eq_false_iff, Bool.or_eq_true, Bool.or_eq_false_iff, Bool.not_eq_true', Bool.not_eq_false', Bool.not_eq_true, Bool.not_eq_false, beq_iff_eq, Int.not_lt, Int.not_le] at hc2
        refine hw_skip ?_
        refine blockQ_n ?_
        refine thenQ_n ?_
        refine hw_region ?_
        refine hl_v (v_move rfl) rfl ?_
        refine hl_v (v_add rfl rfl (by first | omega | assumption | (simp; done) | (simp at *; omega))) rfl ?_
        refine hl_v (v_assign rfl) rfl ?_
        refine hl_nil ?_
        refine thenQ_n ?_
        refine ⟨k + 1, (ai_cons (t := 3) rfl (ai_cons (t := 0) rfl ai_nil)), ?_, ?_⟩
        · skip
          refine ⟨rfl, by omega, ?_⟩
          rw [take_snoc (by omega), List.all_append, hall]
          have h3 : (l.getD k default).length ≤ 300 := by have := hc2; simp only [Int.toNat_natCast] at this; omega
          simpa using h3
        · omega
    · try simp only [decide_eq_true_eq, decide_eq_false_iff_not, Bool.and_eq_true, Bool.and_eq_false_iff, Bool.or_eq_true, Bool.or_eq_false_iff, Bool.not_eq_true', Bool.not_eq_false', Bool.not_eq_true, Bool.not_eq_false, beq_iff_eq, Int.not_lt, Int.not_le] at hc1
      refine hw_exit ?_
      refine thenQ_e ?_
      refine thenQ_e ?_
      refine blockQ_hit ?_
      refine thenQ_n ?_
      refine hw_seq ?_
      refine hw_region ?_
      refine hl_v (v_move rfl) rfl ?_
      refine hl_v (v_lenL rfl Try.underlying25 rfl (by first | assumption | exact Ow.sl0 (by assumption))) rfl ?_
      refine hl_v (v_leq rfl rfl) rfl ?_
      refine hl_v (v_assign rfl) rfl ?_
      refine hl_nil ?_
      refine thenQ_n ?_
      refine hw_sub _ (ai_cons (t := 2) rfl ai_nil) ?_
      refine hw_ret ?_
      refine ret_i _ (ra_t rfl ra_nil) ?_
      refine ⟨congrArg Value.bool ?_, rfl⟩
      unfold short
      by_cases h : l.length ≤ 60
      · have hk2 : k = l.length := by omega
        subst hk2
        rw [List.take_length] at hall
        rw [hall]
        simp
        omega
      · have h1 : decide ((l.length : Int) ≤ 60) = false := by simp; omega
        rw [h1]; simp [h]

theorem TextLag_walk {a b front : List UInt8} {H : Heap} (ha : a.length ≤ 140737488351232) (hb : b.length ≤ 140737488351232) (hf : front.length ≤ 140737488351232) : HC Try.prog 3 [str a, str b, str front] H (fun v H' => v = .bool true ∧ Ext [] H H') := by
  have hx0 : Ext [] H H := Ext.refl _
  have q1 := lcp_le1 a b
  have q2 := lcp_le2 a b
  refine hc_of_hw (N := 99) (rs := [(.tmp 6)]) Try.func3 rfl rfl rfl rfl ?_
  refine hw_seq ?_
  refine hw_region ?_
  refine hl_v (v_assign rfl) rfl ?_
  refine hl_nil ?_
  refine thenQ_n ?_
  refine hw_sub _ (ai_cons (t := 0) rfl (ai_cons (t := 1) rfl (ai_cons (t := 2) rfl ai_nil))) ?_
  refine hw_seq ?_
  refine hw_seq ?_
  refine hw_region ?_
  refine hl_v (v_move rfl) rfl ?_
  refine hl_v (v_lenS rfl Try.underlying9 rfl) rfl ?_
  refine hl_v (v_move rfl) rfl ?_
  refine hl_v (v_lenS rfl Try.underlying9 rfl) rfl ?_
  refine hl_v (v_add rfl rfl (by first | omega | assumption | (simp; done) | (simp at *; omega))) rfl ?_
  refine hl_v (v_move rfl) rfl ?_
  refine hl_v (v_lenS rfl Try.underlying9 rfl) rfl ?_
  refine hl_v (v_add rfl rfl (by first | omega | assumption | (simp; done) | (simp at *; omega))) rfl ?_
  refine hl_v (v_gtr rfl rfl) rfl ?_
  refine hl_nil ?_
  refine thenQ_n ?_
  refine hw_sub _ (ai_cons (t := 0) rfl (ai_cons (t := 1) rfl (ai_cons (t := 2) rfl (ai_cons (t := 22) rfl ai_nil)))) ?_
  refine hw_cond rfl (fun hc1 => ?_) (fun hc1 => ?_)
  · try simp only [decide_eq_true_eq, decide_eq_false_iff_not, Bool.and_eq_true, Bool.and_eq_false_iff, Bool.or_eq_true, Bool.or_eq_false_iff, Bool.not_eq_true', Bool.not_eq_false', Bool.not_eq_true, Bool.not_eq_false, beq_iff_eq, Int.not_lt, Int.not_le] at hc1
    refine hw_seq ?_
    refine hw_region ?_
    refine hl_v (v_assign rfl) rfl ?_
    refine hl_nil ?_
    refine thenQ_n ?_
    refine hw_sub _ (ai_cons (t := 6) rfl ai_nil) ?_
    refine hw_ret ?_
    refine thenQ_r ?_
    refine ret_i _ (ra_t rfl ra_nil) ?_
    exact ⟨rfl, hx0⟩
  · try simp only [decide_eq_true_eq, decide_eq_false_iff_not, Bool.and_eq_true, Bool.and_eq_false_iff, Bool.or_eq_true, Bool.or_eq_false_iff, Bool.not_eq_true', Bool.not_eq_false', Bool.not_eq_true, Bool.not_eq_false, beq_iff_eq, Int.not_lt, Int.not_le] at hc1
    refine hw_skip ?_
    refine thenQ_n ?_
    refine hw_seq ?_
    refine hw_region ?_
    refine hl_v (v_move rfl) rfl ?_
    refine hl_v (v_move rfl) rfl ?_
    refine hl_v (v_call Try.call14 (evs_cons rfl (evs_cons rfl evs_nil)) (Lag_spec (by first | omega | assumption | (simp; done) | (simp at *; omega)) (by first | omega | assumption | (simp; done) | (simp at *; omega)))) rfl ?_
    refine hl_v (v_move rfl) rfl ?_
    refine hl_v (v_extract rfl rfl) rfl ?_
    refine hl_v (v_extract rfl rfl) rfl ?_
    refine hl_v (v_assign rfl) rfl ?_
    refine hl_v (v_assign rfl) rfl ?_
    refine hl_nil ?_
    refine thenQ_n ?_
    refine hw_sub _ (ai_cons (t := 0) rfl (ai_cons (t := 1) rfl (ai_cons (t := 2) rfl (ai_cons (t := 7) rfl (ai_cons (t := 8) rfl ai_nil))))) ?_
    refine hw_seq ?_
    have d1 : (a.drop (lcp a b)).length ≤ a.length := by simp
    have d2 : (b.drop (lcp a b)).length ≤ b.length := by simp
    refine hw_region ?_
    refine hl_v (v_move rfl) rfl ?_
    refine hl_v (v_move rfl) rfl ?_
    refine hl_v (v_call Try.call14 (evs_cons rfl (evs_cons rfl evs_nil)) (Lag_spec (by first | omega | assumption | (simp; done) | (simp at *; omega)) (by first | omega | assumption | (simp; done) | (simp at *; omega)))) rfl ?_
    refine hl_v (v_move rfl) rfl ?_
    refine hl_v (v_extract rfl rfl) rfl ?_
    refine hl_v (v_extract rfl rfl) rfl ?_
    refine hl_v (v_assign rfl) rfl ?_
    refine hl_v (v_assign rfl) rfl ?_
    refine hl_nil ?_
    refine thenQ_n ?_
    refine hw_sub _ (ai_cons (t := 0) rfl (ai_cons (t := 1) rfl (ai_cons (t := 2) rfl (ai_cons (t := 7) rfl (ai_cons (t := 8) rfl (ai_cons (t := 9) rfl (ai_cons (t := 10) rfl ai_nil))))))) ?_
    refine hw_seq ?_
    have d3 : (front ++ a).length = front.length + a.length := List.length_append
    have d4 : (front ++ b).length = front.length + b.length := List.length_append
    refine hw_region ?_
    refine hl_v (v_move rfl) rfl ?_
    refine hl_v (v_move rfl) rfl ?_
    refine hl_v (v_addS rfl rfl (by first | omega | assumption | (simp; done) | (simp at *; omega))) rfl ?_
    refine hl_v (v_move rfl) rfl ?_
    refine hl_v (v_move rfl) rfl ?_
    refine hl_v (v_addS rfl rfl (by first | omega | assumption | (simp; done) | (simp at *; omega))) rfl ?_
    refine hl_v (v_call Try.call14 (evs_cons rfl (evs_cons rfl evs_nil)) (Lag_spec (by first | omega | assumption | (simp; done) | (simp at *; omega)) (by first | omega | assumption | (simp; done) | (simp at *; omega)))) rfl ?_
    refine hl_v (v_move rfl) rfl ?_
    refine hl_v (v_extract rfl rfl) rfl ?_
    refine hl_v (v_extract rfl rfl) rfl ?_
    refine hl_v (v_assign rfl) rfl ?_
    refine hl_v (v_assign rfl) rfl ?_
    refine hl_nil ?_
    refine thenQ_n ?_
    refine hw_sub _ (ai_cons (t := 0) rfl (ai_cons (t := 1) rfl (ai_cons (t := 7) rfl (ai_cons (t := 8) rfl (ai_cons (t := 9) rfl (ai_cons (t := 10) rfl (ai_cons (t := 11) rfl (ai_cons (t := 12) rfl ai_nil)))))))) ?_
    refine hw_seq ?_
    refine hw_region ?_
    refine hl_v (v_move rfl) rfl ?_
    refine hl_v (v_move rfl) rfl ?_
    refine hl_h (h_buildSlice (xs := [.tmp 45, .tmp 46]) Try.underlying25 Try.sizeOf9 Try.zeroValue9 rfl (evs_cons rfl (evs_cons rfl evs_nil)) rfl (by decide) (by decide) (by simp [str, Value.cells])) rfl ?_
    rintro _ H2 ⟨rfl, n3⟩
    have n3s := n3.size
    replace hx0 := Ext.trans hx0 n3.ext
    have n3o := Ow.new (g := fStr) (l := [_, _]) (B := H.size) n3 rfl (by omega) (by simp)
    refine hl_v (v_call Try.call15 (evs_cons rfl evs_nil) (Lcp_spec (by first | assumption | exact Ow.sl0 (by assumption)) (by first | omega | assumption | (simp; done) | (simp at *; omega)))) rfl ?_
    refine hl_v (v_assign rfl) rfl ?_
    refine hl_nil ?_
    refine thenQ_n ?_
    refine hw_sub _ (ai_cons (t := 0) rfl (ai_cons (t := 1) rfl (ai_cons (t := 7) rfl (ai_cons (t := 8) rfl (ai_cons (t := 9) rfl (ai_cons (t := 10) rfl (ai_cons (t := 11) rfl (ai_cons (t := 12) rfl (ai_cons (t := 13) rfl ai_nil))))))))) ?_
    refine hw_seq ?_
    have d5 : (lcpAll [a, b]).length ≤ a.length := lcpOf_len a [b]
    refine hw_held (fun H' => Ext [] H2 H') [(0, true), (1, false), (2, false), (3, false), (4, false), (5, false), (6, false), (7, false), (8, false), (9, false), (10, false), (11, false), (12, false), (13, false), (14, false), (15, false), (16, false), (17, false), (18, false), (19, false), (20, false), (21, false), (22, false), (23, false), (24, false), (25, false), (26, false), (27, false), (28, false), (29, false), (30, false), (31, false), (32, false), (33, false), (34, false), (35, false), (36, false), (37, false), (38, false), (39, false), (40, false), (41, false), (42, false), (43, false), (44, false), (45, false), (46, false), (47, false), (48, false), (49, false), (50, false)] Try.mixed (by kernel_rfl) ?_ ?_
    · exact Ext.refl _
    have xr4 : Ext [] H2 H2 := Ext.refl _
    refine hd_h (h_call Try.call16 evs_nil (awake3_spec)) (fun _ _ hR => Ext.trans xr4 (hR.2)) rfl ?_
    rintro _ H5 ⟨rfl, n6⟩
    have n6s := n6.size
    replace hx0 := Ext.trans hx0 n6
    replace n3o := Ow.ext0 n3o n6
    replace xr4 := Ext.trans xr4 n6
    refine hd_v rfl (fun H' hS => (v_move rfl)) rfl ?_
    refine hd_g rfl rfl rfl (fun hg H' hS => (v_move rfl)) rfl ?_
    refine hd_g rfl rfl rfl (fun hg H' hS => (v_move rfl)) rfl ?_
    refine hd_g rfl rfl rfl (fun hg H' hS => (v_eqlS (gv_ok rfl hg) (gv_ok rfl hg))) rfl ?_
    refine hd_v rfl (fun H' hS => (v_and rfl rfl)) rfl ?_
    refine hd_v rfl (fun H' hS => (v_move rfl)) rfl ?_
    refine hd_g rfl rfl rfl (fun hg H' hS => (v_move rfl)) rfl ?_
    refine hd_g rfl rfl rfl (fun hg H' hS => (v_move rfl)) rfl ?_
    refine hd_g rfl rfl rfl (fun hg H' hS => (v_eqlS (gv_ok rfl hg) (gv_ok rfl hg))) rfl ?_
    refine hd_v rfl (fun H' hS => (v_and rfl rfl)) rfl ?_
    refine hd_v rfl (fun H' hS => (v_move rfl)) rfl ?_
    refine hd_g rfl rfl rfl (fun hg H' hS => (v_move rfl)) rfl ?_
    refine hd_g rfl rfl rfl (fun hg H' hS => (v_move rfl)) rfl ?_
    refine hd_g rfl rfl rfl (fun hg H' hS => (v_eqlS (gv_ok rfl hg) (gv_ok rfl hg))) rfl ?_
    refine hd_v rfl (fun H' hS => (v_and rfl rfl)) rfl ?_
    refine hd_v rfl (fun H' hS => (v_move rfl)) rfl ?_
    refine hd_g rfl rfl rfl (fun hg H' hS => (v_move rfl)) rfl ?_
    refine hd_g rfl rfl rfl (fun hg H' hS => (v_move rfl)) rfl ?_
    refine hd_g rfl rfl rfl (fun hg H' hS => (v_eqlS (gv_ok rfl hg) (gv_ok rfl hg))) rfl ?_
    refine hd_v rfl (fun H' hS => (v_and rfl rfl)) rfl ?_
    refine hd_v rfl (fun H' hS => (v_move rfl)) rfl ?_
    refine hd_g rfl rfl rfl (fun hg H' hS => (v_move rfl)) rfl ?_
    refine hd_g rfl rfl rfl (fun hg H' hS => (v_move rfl)) rfl ?_
    refine hd_g rfl rfl rfl (fun hg H' hS => (v_addS (gv_ok rfl hg) (gv_ok rfl hg) (by simp only [gb_t, gb_f, gb_g, decide_eq_true_eq, decide_eq_false_iff_not, Bool.and_eq_true, Bool.and_eq_false_iff, Bool.or_eq_true, Bool.or_eq_false_iff, Bool.not_eq_true', Bool.not_eq_false', Bool.not_eq_true, Bool.not_eq_false, beq_iff_eq, Int.not_lt, Int.not_le] at hg; (first | omega | assumption | (simp; done) | (simp at *; omega))))) rfl ?_
    refine hd_g rfl rfl rfl (fun hg H' hS => (v_move rfl)) rfl ?_
    refine hd_g rfl rfl rfl (fun hg H' hS => (v_eqlS (gv_ok rfl hg) (gv_ok rfl hg))) rfl ?_
    refine hd_v rfl (fun H' hS => (v_and rfl rfl)) rfl ?_
    refine hd_v rfl (fun H' hS => (v_move rfl)) rfl ?_
    refine hd_g rfl rfl rfl (fun hg H' hS => (v_move rfl)) rfl ?_
    refine hd_g rfl rfl rfl (fun hg H' hS => (v_move rfl)) rfl ?_
    refine hd_g rfl rfl rfl (fun hg H' hS => (v_addS (gv_ok rfl hg) (gv_ok rfl hg) (by simp only [gb_t, gb_f, gb_g, decide_eq_true_eq, decide_eq_false_iff_not, Bool.and_eq_true, Bool.and_eq_false_iff, Bool.or_eq_true, Bool.or_eq_false_iff, Bool.not_eq_true', Bool.not_eq_false', Bool.not_eq_true, Bool.not_eq_false, beq_iff_eq, Int.not_lt, Int.not_le] at hg; (first | omega | assumption | (simp; done) | (simp at *; omega))))) rfl ?_
    refine hd_g rfl rfl rfl (fun hg H' hS => (v_move rfl)) rfl ?_
    refine hd_g rfl rfl rfl (fun hg H' hS => (v_eqlS (gv_ok rfl hg) (gv_ok rfl hg))) rfl ?_
    refine hd_v rfl (fun H' hS => (v_and rfl rfl)) rfl ?_
    refine hd_v rfl (fun H' hS => (v_move rfl)) rfl ?_
    refine hd_g rfl rfl rfl (fun hg H' hS => (v_move rfl)) rfl ?_
    refine hd_g rfl rfl rfl (fun hg H' hS => (v_eqlS (gv_ok rfl hg) rfl)) rfl ?_
    refine hd_g rfl rfl rfl (fun hg H' hS => (v_move (gv_ok rfl hg))) rfl ?_
    refine hd_g rfl rfl rfl (fun hg H' hS => (v_move rfl)) rfl ?_
    refine hd_g rfl rfl rfl (fun hg H' hS => (v_eqlS (gv_ok rfl hg) rfl)) rfl ?_
    refine hd_g rfl rfl rfl (fun hg H' hS => (v_or (gv_ok rfl hg) (gvgb_ok rfl hg))) rfl ?_
    refine hd_g rfl rfl rfl (fun hg H' hS => (v_move (gv_ok rfl hg))) rfl ?_
    refine hd_g rfl rfl rfl (fun hg H' hS => (v_move rfl)) rfl ?_
    refine hd_g rfl rfl rfl (fun hg H' hS => (v_idxS Try.underlying9 (gv_ok rfl hg) rfl (by simp only [gb_t, gb_f, gb_g, decide_eq_true_eq, decide_eq_false_iff_not, Bool.and_eq_true, Bool.and_eq_false_iff, Bool.or_eq_true, Bool.or_eq_false_iff, Bool.not_eq_true', Bool.not_eq_false', Bool.not_eq_true, Bool.not_eq_false, beq_iff_eq, Int.not_lt, Int.not_le] at hg; (first | omega | assumption | (simp; done) | (simp at *; omega))))) rfl ?_
    refine hd_g rfl rfl rfl (fun hg H' hS => (v_move rfl)) rfl ?_
    refine hd_g rfl rfl rfl (fun hg H' hS => (v_idxS Try.underlying9 (gv_ok rfl hg) rfl (by simp only [gb_t, gb_f, gb_g, decide_eq_true_eq, decide_eq_false_iff_not, Bool.and_eq_true, Bool.and_eq_false_iff, Bool.or_eq_true, Bool.or_eq_false_iff, Bool.not_eq_true', Bool.not_eq_false', Bool.not_eq_true, Bool.not_eq_false, beq_iff_eq, Int.not_lt, Int.not_le] at hg; (first | omega | assumption | (simp; done) | (simp at *; omega))))) rfl ?_
    refine hd_g rfl rfl rfl (fun hg H' hS => (v_neq (gv_ok rfl hg) (gv_ok rfl hg))) rfl ?_
    refine hd_g rfl rfl rfl (fun hg H' hS => (v_or (gv_ok rfl hg) (gvgb_ok rfl hg))) rfl ?_
    refine hd_v rfl (fun H' hS => (v_and rfl rfl)) rfl ?_
    refine hd_v rfl (fun H' hS => (v_assign rfl)) rfl ?_
    refine hd_nil ?_
    refine thenQ_n ?_
    refine hw_sub _ (ai_cons (t := 6) rfl ai_nil) ?_
    refine hw_ret ?_
    refine ret_i _ (ra_t rfl ra_nil) ?_
    refine ⟨congrArg Value.bool ?_, hx0⟩
    exact TextLag_law a b front

theorem short_len {l : List (List UInt8)} (h : short l = true) : l.length ≤ 60 := by
  unfold short at h; rw [Bool.and_eq_true] at h; exact of_decide_eq_true h.1
theorem short_el {l : List (List UInt8)} (h : short l = true) : ∀ s ∈ l, s.length ≤ 300 := by
  unfold short at h; rw [Bool.and_eq_true, List.all_eq_true] at h; exact fun s hs => of_decide_eq_true (h.2 s hs)
theorem lcpAll_len {l : List (List UInt8)} {n : Nat} (h : ∀ s ∈ l, s.length ≤ n) : (lcpAll l).length ≤ n := by
  cases l with
  | nil => exact Nat.zero_le _
  | cons s r => exact Nat.le_trans (lcpOf_len s r) (h s (by simp))
theorem TextLcp_law (l m : List (List UInt8)) (a b : List UInt8) :
    (((true && ((decide ((l.length : Int) = 0) || decide ((m.length : Int) = 0)) || decide (lcpAll ([] ++ l ++ m) = lcpAll [lcpAll l, lcpAll m]))) &&
      (!decide ((if a.isPrefixOf b = true then (0 : Int) else 1) = 0) || decide ((a ++ if a.isPrefixOf b = true then b.drop a.length else []) = b))) &&
      decide ((if a.isPrefixOf (a ++ b) = true then (0 : Int) else 1) = 0) && decide ((if a.isPrefixOf (a ++ b) = true then (a ++ b).drop a.length else []) = b)) = true := by
  have h1 : a.isPrefixOf (a ++ b) = true := List.isPrefixOf_iff_prefix.2 (List.prefix_append a b)
  rw [h1]
  simp only [if_true, List.drop_left, decide_true, Bool.and_true, Bool.true_and, Bool.and_eq_true, Bool.or_eq_true, decide_eq_true_eq]
  refine ⟨?_, ?_⟩
  · by_cases hl : l = []
    · left; left; simp [hl]
    · by_cases hm : m = []
      · left; right; simp [hm]
      · right; exact lcpAll_app hl hm
  · by_cases h2 : a.isPrefixOf b = true
    · right
      rw [if_pos h2]
      obtain ⟨t, rfl⟩ := List.isPrefixOf_iff_prefix.1 h2
      simp
    · left; simp [h2]
theorem TextLcp_walk {v0 v1 : Value} {l m : List (List UInt8)} {a b : List UInt8} {H : Heap} (hs : Sl fStr.rep H (inH H) v0 l) (hm : Sl fStr.rep H (inH H) v1 m) (ha : a.length ≤ 140737488351232) (hb : b.length ≤ 140737488351232) : HC Try.prog 6 [v0, v1, str a, str b] H (fun v H' => v = .bool true ∧ Ext [] H H') := by
  have hx0 : Ext [] H H := Ext.refl _
  refine hc_of_hw (N := 96) (rs := [(.tmp 8)]) Try.func6 rfl rfl rfl rfl ?_
  refine hw_seq ?_
  refine hw_region ?_
  refine hl_v (v_assign rfl) rfl ?_
  refine hl_nil ?_
  refine thenQ_n ?_
  refine hw_sub _ (ai_cons (t := 0) rfl (ai_cons (t := 1) rfl (ai_cons (t := 2) rfl (ai_cons (t := 3) rfl ai_nil)))) ?_
  refine hw_seq ?_
  refine hw_seq ?_
  refine hw_region ?_
  refine hl_v (v_move rfl) rfl ?_
  refine hl_v (v_call Try.call26 (evs_cons rfl evs_nil) (Short_spec (by first | omega | assumption | (simp; done) | (simp at *; omega)))) rfl ?_
  refine hl_v (v_not rfl) rfl ?_
  refine hl_v (v_move rfl) rfl ?_
  refine hl_g rfl rfl (fun hg => (v_move rfl)) rfl ?_
  refine hl_g rfl rfl (fun hg => (v_call Try.call26 (evs_cons (gv_ok rfl hg) evs_nil) (Short_spec (by first | omega | assumption | (simp; done) | (simp at *; omega))))) rfl ?_
  refine hl_g rfl rfl (fun hg => (v_not (gv_ok rfl hg))) rfl ?_
  refine hl_v (v_or rfl rfl) rfl ?_
  refine hl_v (v_move rfl) rfl ?_
  refine hl_g rfl rfl (fun hg => (v_move rfl)) rfl ?_
  refine hl_g rfl rfl (fun hg => (v_lenS rfl Try.underlying9 (gv_ok rfl hg))) rfl ?_
  refine hl_g rfl rfl (fun hg => (v_move rfl)) rfl ?_
  refine hl_g rfl rfl (fun hg => (v_lenS rfl Try.underlying9 (gv_ok rfl hg))) rfl ?_
  refine hl_g rfl rfl (fun hg => (v_add (gv_ok rfl hg) (gv_ok rfl hg) (by simp only [gb_t, gb_f, gb_g, decide_eq_true_eq, decide_eq_false_iff_not, Bool.and_eq_true, Bool.and_eq_false_iff, Bool.or_eq_true, Bool.or_eq_false_iff, Bool.not_eq_true', Bool.not_eq_false', Bool.not_eq_true, Bool.not_eq_false, beq_iff_eq, Int.not_lt, Int.not_le] at hg; (first | omega | assumption | (simp; done) | (simp at *; omega))))) rfl ?_
  refine hl_g rfl rfl (fun hg => (v_gtr (gv_ok rfl hg) rfl)) rfl ?_
  refine hl_v (v_or rfl rfl) rfl ?_
  refine hl_nil ?_
  refine thenQ_n ?_
  refine hw_sub _ (ai_cons (t := 0) rfl (ai_cons (t := 1) rfl (ai_cons (t := 2) rfl (ai_cons (t := 3) rfl (ai_cons (t := 31) rfl ai_nil))))) ?_
  refine hw_cond rfl (fun hc1 => ?_) (fun hc1 => ?_)
  · try simp only [decide_eq_true_eq, decide_eq_false_iff_not, Bool.and_eq_true, Bool.and_eq_false_iff, Bool.or_eq_true, Bool.or_eq_false_iff, Bool.not_eq_true', Bool.not_eq_false', Bool.not_eq_true, Bool.not_eq_false, beq_iff_eq, Int.not_lt, Int.not_le] at hc1
    refine hw_seq ?_
    refine hw_region ?_
    refine hl_v (v_assign rfl) rfl ?_
    refine hl_nil ?_
    refine thenQ_n ?_
    refine hw_sub _ (ai_cons (t := 8) rfl ai_nil) ?_
    refine hw_ret ?_
    refine thenQ_r ?_
    refine ret_i _ (ra_t rfl ra_nil) ?_
    exact ⟨rfl, hx0⟩
  · try simp only [decide_eq_true_eq, decide_eq_false_iff_not, Bool.and_eq_true, Bool.and_eq_false_iff, Bool.or_eq_true, Bool.or_eq_false_iff, Bool.not_eq_true', Bool.not_eq_false', Bool.not_eq_true, Bool.not_eq_false, beq_iff_eq, Int.not_lt, Int.not_le] at hc1
    refine hw_skip ?_
    refine thenQ_n ?_
    refine hw_seq ?_
    have hb9 : Try.t9.bytes = 16 := rfl
    have g1 := short_len hc1.1.1
    have g2 := short_len hc1.1.2
    have g3 := short_el hc1.1.1
    have g4 := short_el hc1.1.2
    have g5 := lcpAll_len g3
    have g6 := lcpAll_len g4
    have g7 : ∀ s ∈ [] ++ l ++ m, s.length ≤ 9223372036854775807 := by
      intro s h
      simp only [List.nil_append, List.mem_append] at h
      rcases h with h | h
      · have := g3 s h; omega
      · have := g4 s h; omega
    have g8 : ∀ s ∈ l, s.length ≤ 9223372036854775807 := fun s h => by have := g3 s h; omega
    have g9 : ∀ s ∈ m, s.length ≤ 9223372036854775807 := fun s h => by have := g4 s h; omega
    have g10 : ∀ s ∈ [lcpAll l, lcpAll m], s.length ≤ 9223372036854775807 := by
      intro s h
      simp only [List.mem_cons, List.not_mem_nil, or_false] at h
      rcases h with rfl | rfl <;> omega
    refine hw_region ?_
    refine hl_v (v_assign rfl) rfl ?_
    refine hl_nil ?_
    refine thenQ_n ?_
    refine hw_sub _ (ai_cons (t := 0) rfl (ai_cons (t := 1) rfl (ai_cons (t := 2) rfl (ai_cons (t := 3) rfl (ai_cons (t := 9) rfl ai_nil))))) ?_
    refine hw_seq ?_
    refine hw_region ?_
    refine hl_v (v_move rfl) rfl ?_
    refine hl_v (v_move rfl) rfl ?_
    refine hl_h (h_append (g := fStr) (B := H.size) rfl Try.underlying25 Try.type9 rfl rfl rfl rfl (by decide) rfl rfl Ow.nil (by first | assumption | exact Ow.sl0 (by assumption)) (by first | (rw [show Try.t9.bytes = 16 from rfl]; simp only [List.length_append, List.length_nil]; omega) | (rw [show Try.t9.bytes = 16 from rfl]; omega) | omega | (simp only [List.length_append, List.length_nil]; omega) | assumption | (simp; done)) (by first | (rw [show Try.t9.bytes = 16 from rfl]; simp only [List.length_append, List.length_nil]; omega) | (rw [show Try.t9.bytes = 16 from rfl]; omega) | omega | (simp only [List.length_append, List.length_nil]; omega) | assumption | (simp; done)) (by first | (rw [show Try.t9.bytes = 16 from rfl]; simp only [List.length_append, List.length_nil]; omega) | (rw [show Try.t9.bytes = 16 from rfl]; omega) | omega | (simp only [List.length_append, List.length_nil]; omega) | assumption | (simp; done))) rfl ?_
    rintro v4 H2 ⟨a3o, a3x, a3n, a3b⟩
    have a3s := a3x.size
    replace hx0 := Ext.trans hx0 a3x
    replace hs := Sl.ext0 hs a3x
    replace hm := Sl.ext0 hm a3x
    refine hl_v (v_assign rfl) rfl ?_
    refine hl_nil ?_
    refine thenQ_n ?_
    refine hw_sub _ (ai_cons (t := 0) rfl (ai_cons (t := 1) rfl (ai_cons (t := 2) rfl (ai_cons (t := 3) rfl (ai_cons (t := 9) rfl ai_nil))))) ?_
    refine hw_seq ?_
    refine hw_region ?_
    refine hl_v (v_move rfl) rfl ?_
    refine hl_v (v_move rfl) rfl ?_
    refine hl_h (h_append (g := fStr) (B := H.size) rfl Try.underlying25 Try.type9 rfl rfl rfl rfl (by decide) rfl rfl a3o (by first | assumption | exact Ow.sl0 (by assumption)) (by first | (rw [show Try.t9.bytes = 16 from rfl]; simp only [List.length_append, List.length_nil]; omega) | (rw [show Try.t9.bytes = 16 from rfl]; omega) | omega | (simp only [List.length_append, List.length_nil]; omega) | assumption | (simp; done)) (by first | (rw [show Try.t9.bytes = 16 from rfl]; simp only [List.length_append, List.length_nil]; omega) | (rw [show Try.t9.bytes = 16 from rfl]; omega) | omega | (simp only [List.length_append, List.length_nil]; omega) | assumption | (simp; done)) (by first | (rw [show Try.t9.bytes = 16 from rfl]; simp only [List.length_append, List.length_nil]; omega) | (rw [show Try.t9.bytes = 16 from rfl]; omega) | omega | (simp only [List.length_append, List.length_nil]; omega) | assumption | (simp; done))) rfl ?_
    rintro v7 H5 ⟨a6o, a6x, a6n, a6b⟩
    have a6s := a6x.size
    replace hx0 := Ext.fresh hx0 a6x (by intro b hb; exact Or.inl (Ow.lt a3o b hb).1)
    replace hs := Sl.ext hs a6x (by intro b hb; intro hm; have hlt := Ow.lt a3o b hm; omega)
    replace hm := Sl.ext hm a6x (by intro b hb; intro hm; have hlt := Ow.lt a3o b hm; omega)
    refine hl_v (v_assign rfl) rfl ?_
    refine hl_nil ?_
    refine thenQ_n ?_
    refine hw_sub _ (ai_cons (t := 0) rfl (ai_cons (t := 1) rfl (ai_cons (t := 2) rfl (ai_cons (t := 3) rfl (ai_cons (t := 9) rfl ai_nil))))) ?_
    refine hw_seq ?_
    refine hw_region ?_
    refine hl_v (v_move rfl) rfl ?_
    refine hl_v (v_call Try.call15 (evs_cons rfl evs_nil) (Lcp_spec (by first | assumption | exact Ow.sl0 (by assumption)) (by first | omega | assumption | (simp; done) | (simp at *; omega)))) rfl ?_
    refine hl_v (v_assign rfl) rfl ?_
    refine hl_nil ?_
    refine thenQ_n ?_
    refine hw_sub _ (ai_cons (t := 0) rfl (ai_cons (t := 1) rfl (ai_cons (t := 2) rfl (ai_cons (t := 3) rfl (ai_cons (t := 10) rfl ai_nil))))) ?_
    refine hw_seq ?_
    refine hw_region ?_
    refine hl_v (v_move rfl) rfl ?_
    refine hl_v (v_call Try.call15 (evs_cons rfl evs_nil) (Lcp_spec (by first | assumption | exact Ow.sl0 (by assumption)) (by first | omega | assumption | (simp; done) | (simp at *; omega)))) rfl ?_
    refine hl_v (v_move rfl) rfl ?_
    refine hl_v (v_call Try.call15 (evs_cons rfl evs_nil) (Lcp_spec (by first | assumption | exact Ow.sl0 (by assumption)) (by first | omega | assumption | (simp; done) | (simp at *; omega)))) rfl ?_
    refine hl_h (h_buildSlice (xs := [.tmp 41, .tmp 43]) Try.underlying25 Try.sizeOf9 Try.zeroValue9 rfl (evs_cons rfl (evs_cons rfl evs_nil)) rfl (by decide) (by decide) (by simp [str, Value.cells])) rfl ?_
    rintro _ H8 ⟨rfl, n9⟩
    have n9s := n9.size
    replace hx0 := Ext.trans hx0 n9.ext
    replace hs := Sl.ext0 hs n9.ext
    replace hm := Sl.ext0 hm n9.ext
    replace a6o := Ow.ext0 a6o n9.ext
    have n9o := Ow.new (g := fStr) (l := [_, _]) (B := H.size) n9 rfl (by omega) (by simp)
    refine hl_v (v_call Try.call15 (evs_cons rfl evs_nil) (Lcp_spec (by first | assumption | exact Ow.sl0 (by assumption)) (by first | omega | assumption | (simp; done) | (simp at *; omega)))) rfl ?_
    refine hl_v (v_assign rfl) rfl ?_
    refine hl_nil ?_
    refine thenQ_n ?_
    refine hw_sub _ (ai_cons (t := 0) rfl (ai_cons (t := 1) rfl (ai_cons (t := 2) rfl (ai_cons (t := 3) rfl (ai_cons (t := 10) rfl (ai_cons (t := 11) rfl ai_nil)))))) ?_
    refine hw_seq ?_
    refine hw_region ?_
    refine hl_v (v_move rfl) rfl ?_
    refine hl_v (v_move rfl) rfl ?_
    refine hl_v (v_call Try.call27 (evs_cons rfl (evs_cons rfl evs_nil)) (Strip_spec (by first | omega | assumption | (simp; done) | (simp at *; omega)) (by first | omega | assumption | (simp; done) | (simp at *; omega)))) rfl ?_
    refine hl_v (v_move rfl) rfl ?_
    refine hl_v (v_extract rfl rfl) rfl ?_
    refine hl_v (v_extract rfl rfl) rfl ?_
    refine hl_v (v_assign rfl) rfl ?_
    refine hl_v (v_assign rfl) rfl ?_
    refine hl_nil ?_
    refine thenQ_n ?_
    refine hw_sub _ (ai_cons (t := 0) rfl (ai_cons (t := 1) rfl (ai_cons (t := 2) rfl (ai_cons (t := 3) rfl (ai_cons (t := 10) rfl (ai_cons (t := 11) rfl (ai_cons (t := 12) rfl (ai_cons (t := 13) rfl ai_nil)))))))) ?_
    refine hw_seq ?_
    refine hw_region ?_
    refine hl_v (v_move rfl) rfl ?_
    refine hl_v (v_move rfl) rfl ?_
    refine hl_v (v_move rfl) rfl ?_
    refine hl_v (v_addS rfl rfl (by first | omega | assumption | (simp; done) | (simp at *; omega))) rfl ?_
    refine hl_v (v_call Try.call27 (evs_cons rfl (evs_cons rfl evs_nil)) (Strip_spec (by first | omega | assumption | (simp; done) | (simp at *; omega)) (by first | omega | assumption | (simp; done) | (simp at *; omega)))) rfl ?_
    refine hl_v (v_move rfl) rfl ?_
    refine hl_v (v_extract rfl rfl) rfl ?_
    refine hl_v (v_extract rfl rfl) rfl ?_
    refine hl_v (v_assign rfl) rfl ?_
    refine hl_v (v_assign rfl) rfl ?_
    refine hl_nil ?_
    refine thenQ_n ?_
    refine hw_sub _ (ai_cons (t := 0) rfl (ai_cons (t := 1) rfl (ai_cons (t := 2) rfl (ai_cons (t := 3) rfl (ai_cons (t := 10) rfl (ai_cons (t := 11) rfl (ai_cons (t := 12) rfl (ai_cons (t := 13) rfl (ai_cons (t := 14) rfl (ai_cons (t := 15) rfl ai_nil)))))))))) ?_
    refine hw_seq ?_
    have g11 : (if a.isPrefixOf b = true then b.drop a.length else []).length ≤ b.length := by split <;> simp
    refine hw_region ?_
    refine hl_h (h_call Try.call16 evs_nil (awake3_spec)) rfl ?_
    rintro _ H10 ⟨rfl, n11⟩
    have n11s := n11.size
    replace hx0 := Ext.trans hx0 n11
    replace hs := Sl.ext0 hs n11
    replace hm := Sl.ext0 hm n11
    replace a6o := Ow.ext0 a6o n11
    replace n9o := Ow.ext0 n9o n11
    refine hl_v (v_move rfl) rfl ?_
    refine hl_g rfl rfl (fun hg => (v_move rfl)) rfl ?_
    refine hl_g rfl rfl (fun hg => (v_lenL rfl Try.underlying25 (gv_ok rfl hg) (by first | assumption | exact Ow.sl0 (by assumption)))) rfl ?_
    refine hl_g rfl rfl (fun hg => (v_eql (gv_ok rfl hg) rfl)) rfl ?_
    refine hl_g rfl rfl (fun hg => (v_move (gv_ok rfl hg))) rfl ?_
    refine hl_g rfl rfl (fun hg => (v_move rfl)) rfl ?_
    refine hl_g rfl rfl (fun hg => (v_lenL rfl Try.underlying25 (gv_ok rfl hg) (by first | assumption | exact Ow.sl0 (by assumption)))) rfl ?_
    refine hl_g rfl rfl (fun hg => (v_eql (gv_ok rfl hg) rfl)) rfl ?_
    refine hl_g rfl rfl (fun hg => (v_or (gv_ok rfl hg) (gvgb_ok rfl hg))) rfl ?_
    refine hl_g rfl rfl (fun hg => (v_move (gv_ok rfl hg))) rfl ?_
    refine hl_g rfl rfl (fun hg => (v_move rfl)) rfl ?_
    refine hl_g rfl rfl (fun hg => (v_move rfl)) rfl ?_
    refine hl_g rfl rfl (fun hg => (v_eqlS (gv_ok rfl hg) (gv_ok rfl hg))) rfl ?_
    refine hl_g rfl rfl (fun hg => (v_or (gv_ok rfl hg) (gvgb_ok rfl hg))) rfl ?_
    refine hl_v (v_and rfl rfl) rfl ?_
    refine hl_v (v_move rfl) rfl ?_
    refine hl_g rfl rfl (fun hg => (v_move rfl)) rfl ?_
    refine hl_g rfl rfl (fun hg => (v_neq (gv_ok rfl hg) rfl)) rfl ?_
    refine hl_g rfl rfl (fun hg => (v_move (gv_ok rfl hg))) rfl ?_
    refine hl_g rfl rfl (fun hg => (v_move rfl)) rfl ?_
    refine hl_g rfl rfl (fun hg => (v_move rfl)) rfl ?_
    refine hl_g rfl rfl (fun hg => (v_addS (gv_ok rfl hg) (gv_ok rfl hg) (by simp only [gb_t, gb_f, gb_g, decide_eq_true_eq, decide_eq_false_iff_not, Bool.and_eq_true, Bool.and_eq_false_iff, Bool.or_eq_true, Bool.or_eq_false_iff, Bool.not_eq_true', Bool.not_eq_false', Bool.not_eq_true, Bool.not_eq_false, beq_iff_eq, Int.not_lt, Int.not_le] at hg; (first | omega | assumption | (simp; done) | (simp at *; omega))))) rfl ?_
    refine hl_g rfl rfl (fun hg => (v_move rfl)) rfl ?_
    refine hl_g rfl rfl (fun hg => (v_eqlS (gv_ok rfl hg) (gv_ok rfl hg))) rfl ?_
    refine hl_g rfl rfl (fun hg => (v_or (gv_ok rfl hg) (gvgb_ok rfl hg))) rfl ?_
    refine hl_v (v_and rfl rfl) rfl ?_
    refine hl_v (v_move rfl) rfl ?_
    refine hl_g rfl rfl (fun hg => (v_move rfl)) rfl ?_
    refine hl_g rfl rfl (fun hg => (v_eql (gv_ok rfl hg) rfl)) rfl ?_
    refine hl_v (v_and rfl rfl) rfl ?_
    refine hl_v (v_move rfl) rfl ?_
    refine hl_g rfl rfl (fun hg => (v_move rfl)) rfl ?_
    refine hl_g rfl rfl (fun hg => (v_move rfl)) rfl ?_
    refine hl_g rfl rfl (fun hg => (v_eqlS (gv_ok rfl hg) (gv_ok rfl hg))) rfl ?_
    refine hl_v (v_and rfl rfl) rfl ?_
    refine hl_v (v_assign rfl) rfl ?_
    refine hl_nil ?_
    refine thenQ_n ?_
    refine hw_sub _ (ai_cons (t := 8) rfl ai_nil) ?_
    refine hw_ret ?_
    refine ret_i _ (ra_t rfl ra_nil) ?_
    refine ⟨congrArg Value.bool ?_, hx0⟩
    exact TextLcp_law l m a b

end Go.Proofs.Ytbfgjdhdohfacaa
