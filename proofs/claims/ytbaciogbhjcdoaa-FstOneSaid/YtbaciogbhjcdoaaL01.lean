/- Walks of layer 1 (set). No condition. -/
import Derived.Test.YtbaciogbhjcdoaaProg
import Derived.Test.YtbaciogbhjcdoaaPlain01
import Derived.Test.YtbaciogbhjcdoaaHeld
import Derived.Test.YtbaciogbhjcdoaaRange
set_option linter.unusedVariables false
set_option linter.unusedSimpArgs false
set_option maxRecDepth 20000
namespace Go.Proofs.Ytbaciogbhjcdoaa
open Go.Proofs
theorem Try.mixed : Try.prog.follows .mixedOrders = true := by kernel_rfl
theorem Of_spec {v0 : Value} {l : List UInt8} {S : Nat → Prop} {H : Heap} (hs : Sl fByte.rep H S v0 l) (hS : ∀ b, S b → b < H.size) : HC Try.prog 42 [v0] H (fun v H' => v = sv (.ofL l) ∧ Ext [] H H') := by
  have hx0 : Ext [] H H := Ext.refl _
  have hcap := hs.cap
  refine hc_of_hw (N := 23) (rs := [(.cell 2 34)]) Try.func42 rfl rfl rfl rfl ?_
  refine hw_seq ?_
  refine hw_region ?_
  refine hl_h (h_allocS Try.zeroValue34) rfl ?_
  rintro _ H1 ⟨rfl, n2⟩
  have n2s := n2.size
  replace hx0 := Ext.trans hx0 n2.ext
  replace hs := Sl.ext0 hs n2.ext
  have n2b := n2.blk
  refine hl_nil ?_
  refine thenQ_n ?_
  refine hw_sub _ (ai_cons (t := 0) rfl (ai_cons (t := 2) rfl ai_nil)) ?_
  refine hw_seq ?_
  refine hw_region ?_
  refine hl_h (h_allocS Try.zeroValue34) rfl ?_
  rintro _ H3 ⟨rfl, n4⟩
  have n4s := n4.size
  replace hx0 := Ext.trans hx0 n4.ext
  replace hs := Sl.ext0 hs n4.ext
  replace n2b := Ext.blk n4.ext n2b (by simp)
  have n4b := n4.blk
  refine hl_nil ?_
  refine thenQ_n ?_
  refine hw_sub _ (ai_cons (t := 0) rfl (ai_cons (t := 2) rfl (ai_cons (t := 3) rfl ai_nil))) ?_
  refine hw_seq ?_
  refine hw_seq ?_
  refine hw_region ?_
  refine hl_v (v_move rfl) rfl ?_
  refine hl_v (v_lenL rfl Try.underlying94 rfl (by first | assumption | exact Ow.sl0 (by assumption))) rfl ?_
  refine hl_v (v_move rfl) rfl ?_
  refine hl_nil ?_
  refine thenQ_n ?_
  refine hw_sub _ (ai_cons (t := 2) rfl (ai_cons (t := 3) rfl (ai_cons (t := 6) rfl (ai_cons (t := 7) rfl (ai_cons (t := 8) rfl ai_nil))))) ?_
  refine hw_block ?_
  refine hw_loop (α := Nat) [(2, _), (3, _), (6, _), (7, _)] (fun k => [(8, .int .i64 (k : Int))]) (fun k G3 => Ext [] H G3 ∧ Sl fByte.rep G3 S v0 l ∧ Blk G3 H.size (sw .zero) 34 ∧ Blk G3 H1.size (sw (.ofL (l.take k))) 34 ∧ H3.size ≤ G3.size ∧ k ≤ l.length) (fun k => l.length - k) 0 (ai_cons (t := 8) rfl (ai_cons (t := 2) rfl (ai_cons (t := 3) rfl (ai_cons (t := 6) rfl (ai_cons (t := 7) rfl ai_nil))))) ?_ ?_
  · exact ⟨hx0, hs, n2b, n4b, Nat.le_refl _, Nat.zero_le _⟩
  · intro k G3 hI
    obtain ⟨hx0, hs, n2b, n4b, hz, hk⟩ := hI
    have hx0z := hx0.size
    refine hw_seq ?_
    refine hw_region ?_
    refine hl_v (v_lss rfl rfl) rfl ?_
    refine hl_nil ?_
    refine thenQ_n ?_
    refine hw_sub _ (ai_cons (t := 2) rfl (ai_cons (t := 3) rfl (ai_cons (t := 6) rfl (ai_cons (t := 7) rfl (ai_cons (t := 8) rfl (ai_cons (t := 9) rfl ai_nil)))))) ?_
    refine hw_seq ?_
    refine hw_cond rfl (fun hc5 => ?_) (fun hc5 => ?_)
    · try simp only [decide_eq_true_eq, decide_eq_false_iff_not, Bool.and_eq_true, Bool.and_eq_false_iff, Bool.or_eq_true, Bool.or_eq_false_iff, Bool.not_eq_true', Bool.not_eq_false', Bool.not_eq_true, Bool.not_eq_false, beq_iff_eq, Int.not_lt, Int.not_le] at hc5
      refine hw_skip ?_
      refine thenQ_n ?_
      refine hw_seq ?_
      refine hw_block ?_
      refine hw_seq ?_
      refine hw_region ?_
      refine hl_v (v_ixL Try.underlying94 Try.sizeOf5 rfl rfl (by first | assumption | exact Ow.sl0 (by assumption)) (by first | omega | assumption | (simp only [Int.toNat_natCast]; omega) | (simp; done) | (simp at *; omega))) rfl ?_
      refine hl_v (v_loadSc Try.isAgg5 rfl (by first | assumption | exact Ow.sl0 (by assumption)) rfl (by first | omega | assumption | (simp only [Int.toNat_natCast]; omega) | (simp; done) | (simp at *; omega)) rfl) rfl ?_
      refine hl_v (v_assign rfl) rfl ?_
      refine hl_nil ?_
      refine thenQ_n ?_
      refine hw_sub _ (ai_cons (t := 2) rfl (ai_cons (t := 3) rfl (ai_cons (t := 5) rfl (ai_cons (t := 6) rfl (ai_cons (t := 7) rfl (ai_cons (t := 8) rfl ai_nil)))))) ?_
      have hbyte := (l.getD k default).toNat_lt
      refine hw_region ?_
      refine hl_v (v_move rfl) rfl ?_
      refine hl_v (v_quo8 rfl rfl (by first | omega | assumption | (simp only [Int.toNat_natCast]; omega) | (simp; done) | (simp at *; omega))) rfl ?_
      refine hl_v (v_ixS Try.underlying34 Try.sizeOf32 rfl rfl (by first | omega | assumption | (simp only [Int.toNat_natCast]; omega) | (simp; done) | (simp at *; omega))) rfl ?_
      refine hl_v (v_loadW Try.isAgg32 rfl (by first | exact n4b | assumption) (by first | omega | assumption | (simp only [Int.toNat_natCast]; omega) | (simp; done) | (simp at *; omega))) rfl ?_
      refine hl_v (v_move rfl) rfl ?_
      refine hl_v (v_rem8 rfl rfl (by first | omega | assumption | (simp only [Int.toNat_natCast]; omega) | (simp; done) | (simp at *; omega))) rfl ?_
      refine hl_v (v_shl64 (show _ = some (w64 1#64) from rfl) rfl (by first | omega | assumption | (simp only [Int.toNat_natCast]; omega) | (simp; done) | (simp at *; omega))) rfl ?_
      refine hl_v (v_or64 rfl rfl) rfl ?_
      refine hl_v (v_ixS Try.underlying34 Try.sizeOf32 rfl rfl (by first | omega | assumption | (simp only [Int.toNat_natCast]; omega) | (simp; done) | (simp at *; omega))) rfl ?_
      refine hl_s (h_storeW Try.sizeOf32 rfl rfl n4b (by first | omega | assumption | (simp only [Int.toNat_natCast]; omega) | (simp; done) | (simp at *; omega))) ?_
      rintro _ H6 p7
      have p7s := p7.size
      replace hx0 := Ext.fresh hx0 p7.ext (by intro b hb; simp at hb; omega)
      replace hs := Sl.ext hs p7.ext (by intro b hb; (try have hSb := hS b hb); (try simp only [mb, List.mem_singleton] at hb); simp; omega)
      replace n2b := Ext.blk p7.ext n2b (by (try simp only [mb, List.mem_singleton] at hb); simp; omega)
      replace n4b := p7.blk
      refine hl_nil ?_
      refine blockQ_n ?_
      refine thenQ_n ?_
      refine hw_region ?_
      refine hl_v (v_add rfl rfl (by first | omega | assumption | (simp only [Int.toNat_natCast]; omega) | (simp; done) | (simp at *; omega))) rfl ?_
      refine hl_v (v_move rfl) rfl ?_
      refine hl_nil ?_
      refine thenQ_n ?_
      refine ⟨k + 1, (ai_cons (t := 8) rfl (ai_cons (t := 2) rfl (ai_cons (t := 3) rfl (ai_cons (t := 6) rfl (ai_cons (t := 7) rfl ai_nil))))), ?_, ?_⟩
      · skip
        exact ⟨hx0, hs, n2b, (by rw [take_snoc (by omega), BSet.ofL_snoc]; exact n4b), (by omega), by omega⟩
      · omega
    · try simp only [decide_eq_true_eq, decide_eq_false_iff_not, Bool.and_eq_true, Bool.and_eq_false_iff, Bool.or_eq_true, Bool.or_eq_false_iff, Bool.not_eq_true', Bool.not_eq_false', Bool.not_eq_true, Bool.not_eq_false, beq_iff_eq, Int.not_lt, Int.not_le] at hc5
      refine hw_exit ?_
      refine thenQ_e ?_
      refine thenQ_e ?_
      refine blockQ_hit ?_
      refine thenQ_n ?_
      refine hw_seq ?_
      refine hw_region ?_
      refine hl_v (v_loadS Try.isAgg34 Try.sizeOf34 rfl (by first | exact n4b | assumption)) rfl ?_
      refine hl_s (h_storeS Try.sizeOf34 rfl rfl n2b) ?_
      rintro _ H8 p9
      have p9s := p9.size
      replace hx0 := Ext.fresh hx0 p9.ext (by intro b hb; simp at hb; omega)
      replace hs := Sl.ext hs p9.ext (by intro b hb; (try have hSb := hS b hb); (try simp only [mb, List.mem_singleton] at hb); simp; omega)
      replace n4b := Ext.blk p9.ext n4b (by (try simp only [mb, List.mem_singleton] at hb); simp; omega)
      replace n2b := p9.blk
      refine hl_nil ?_
      refine thenQ_n ?_
      refine hw_sub _ (ai_cons (t := 2) rfl ai_nil) ?_
      refine hw_ret ?_
      refine ret_i _ (ra_c rfl (fun w hw => run_loadVar_at Try.isAgg34 Try.sizeOf34 (Blk.at0 (by assumption)) rfl w hw) ra_nil) ?_
      refine ⟨?_, hx0⟩
      rw [List.take_of_length_le (by omega)]; rfl

theorem Has_spec {s : BSet} {c : UInt8} {H : Heap} : HC Try.prog 16 [sv s, .int .u8 c.toNat] H (fun v H' => v = .bool (s.has c.toNat) ∧ Ext [] H H') := by
  have hx0 : Ext [] H H := Ext.refl _
  have hc := c.toNat_lt
  refine hc_of_hw (N := 14) (rs := [(.tmp 4)]) Try.func16 rfl rfl rfl rfl ?_
  refine hw_seq ?_
  refine hw_region ?_
  refine hl_h (h_boxS rfl) rfl ?_
  rintro _ H1 ⟨rfl, n2⟩
  have n2s := n2.size
  replace hx0 := Ext.trans hx0 n2.ext
  have n2b := n2.blk
  refine hl_v (v_assign rfl) rfl ?_
  refine hl_nil ?_
  refine thenQ_n ?_
  refine hw_sub _ (ai_cons (t := 1) rfl (ai_cons (t := 2) rfl ai_nil)) ?_
  refine hw_seq ?_
  refine hw_region ?_
  refine hl_v (v_move rfl) rfl ?_
  refine hl_v (v_quo8 rfl rfl (by first | omega | assumption | (simp only [Int.toNat_natCast]; omega) | (simp; done) | (simp at *; omega))) rfl ?_
  refine hl_v (v_ixS Try.underlying34 Try.sizeOf32 rfl rfl (by first | omega | assumption | (simp only [Int.toNat_natCast]; omega) | (simp; done) | (simp at *; omega))) rfl ?_
  refine hl_v (v_loadW Try.isAgg32 rfl (by first | exact n2b | assumption) (by first | omega | assumption | (simp only [Int.toNat_natCast]; omega) | (simp; done) | (simp at *; omega))) rfl ?_
  refine hl_v (v_move rfl) rfl ?_
  refine hl_v (v_rem8 rfl rfl (by first | omega | assumption | (simp only [Int.toNat_natCast]; omega) | (simp; done) | (simp at *; omega))) rfl ?_
  refine hl_v (v_shr64 rfl rfl (by first | omega | assumption | (simp only [Int.toNat_natCast]; omega) | (simp; done) | (simp at *; omega))) rfl ?_
  refine hl_v (v_and64 rfl (show _ = some (w64 1#64) from rfl)) rfl ?_
  refine hl_v (v_eql64 rfl (show _ = some (w64 1#64) from rfl)) rfl ?_
  refine hl_v (v_assign rfl) rfl ?_
  refine hl_nil ?_
  refine thenQ_n ?_
  refine hw_sub _ (ai_cons (t := 4) rfl ai_nil) ?_
  refine hw_ret ?_
  refine ret_i _ (ra_t rfl ra_nil) ?_
  exact ⟨congrArg Value.bool (BSet.has_shr s hc), hx0⟩

theorem power_spec {n : Int} {H : Heap} (h0 : 0 ≤ n ∧ n ≤ 1000) : HC Try.prog 78 [.int .i64 n] H (fun v H' => v = w64 (1#64 <<< n.toNat) ∧ H' = H) := by
  refine hc_of_hw (N := 13) (rs := [(.tmp 2)]) Try.func78 rfl rfl rfl rfl ?_
  refine hw_seq ?_
  refine hw_region ?_
  refine hl_v (v_assign rfl) rfl ?_
  refine hl_nil ?_
  refine thenQ_n ?_
  refine hw_sub _ (ai_cons (t := 0) rfl ai_nil) ?_
  refine hw_seq ?_
  refine hw_region ?_
  refine hl_v (v_assign rfl) rfl ?_
  refine hl_nil ?_
  refine thenQ_n ?_
  refine hw_sub _ (ai_cons (t := 0) rfl (ai_cons (t := 3) rfl ai_nil)) ?_
  refine hw_seq ?_
  refine hw_seq ?_
  refine hw_region ?_
  refine hl_v (v_assign rfl) rfl ?_
  refine hl_nil ?_
  refine thenQ_n ?_
  refine hw_sub _ (ai_cons (t := 0) rfl (ai_cons (t := 3) rfl (ai_cons (t := 4) rfl ai_nil))) ?_
  refine hw_block ?_
  refine hw_loop (α := Nat) [(0, _)] (fun k => [(3, w64 (1#64 <<< k)), (4, .int .i64 (k : Int))]) (fun k G3 => G3 = H ∧ (k : Int) ≤ n) (fun k => n.toNat - k) 0 (ai_cons (t := 3) rfl (ai_cons (t := 4) rfl (ai_cons (t := 0) rfl ai_nil))) ?_ ?_
  · exact ⟨rfl, h0.1⟩
  · intro k G3 hI
    obtain ⟨rfl, hk⟩ := hI
    refine hw_seq ?_
    refine hw_seq ?_
    refine hw_region ?_
    refine hl_v (v_move rfl) rfl ?_
    refine hl_v (v_move rfl) rfl ?_
    refine hl_v (v_lss rfl rfl) rfl ?_
    refine hl_nil ?_
    refine thenQ_n ?_
    refine hw_sub _ (ai_cons (t := 0) rfl (ai_cons (t := 3) rfl (ai_cons (t := 4) rfl (ai_cons (t := 7) rfl ai_nil)))) ?_
    refine hw_cond rfl (fun hc1 => ?_) (fun hc1 => ?_)
    · try simp only [decide_eq_true_eq, decide_eq_false_iff_not, Bool.and_eq_true, Bool.and_eq_false_iff, Bool.or_eq_true, Bool.or_eq_false_iff, Bool.not_eq_true', Bool.not_eq_false', Bool.not_eq_true, Bool.not_eq_false, beq_iff_eq, Int.not_lt, Int.not_le] at hc1
      refine hw_skip ?_
      refine thenQ_n ?_
      refine hw_seq ?_
      refine hw_block ?_
      refine hw_region ?_
      refine hl_v (v_move rfl) rfl ?_
      refine hl_v (v_mul64 (show _ = some (w64 2#64) from rfl) rfl) rfl ?_
      refine hl_v (v_assign rfl) rfl ?_
      refine hl_nil ?_
      refine blockQ_n ?_
      refine thenQ_n ?_
      refine hw_region ?_
      refine hl_v (v_move rfl) rfl ?_
      refine hl_v (v_add rfl rfl (by first | omega | assumption | (simp only [Int.toNat_natCast]; omega) | (simp; done) | (simp at *; omega))) rfl ?_
      refine hl_v (v_assign rfl) rfl ?_
      refine hl_nil ?_
      refine thenQ_n ?_
      refine ⟨k + 1, (ai_cons (t := 3) (by first | (show some _ = some _; rw [BSet.pow_shl]) | rfl) (ai_cons (t := 4) (by first | (show some _ = some _; rw [BSet.pow_shl]) | rfl) (ai_cons (t := 0) rfl ai_nil))), ?_, ?_⟩
      · exact ⟨rfl, by omega⟩
      · omega
    · try simp only [decide_eq_true_eq, decide_eq_false_iff_not, Bool.and_eq_true, Bool.and_eq_false_iff, Bool.or_eq_true, Bool.or_eq_false_iff, Bool.not_eq_true', Bool.not_eq_false', Bool.not_eq_true, Bool.not_eq_false, beq_iff_eq, Int.not_lt, Int.not_le] at hc1
      refine hw_exit ?_
      refine thenQ_e ?_
      refine thenQ_e ?_
      refine blockQ_hit ?_
      refine thenQ_n ?_
      refine hw_seq ?_
      refine hw_region ?_
      refine hl_v (v_move rfl) rfl ?_
      refine hl_v (v_assign rfl) rfl ?_
      refine hl_nil ?_
      refine thenQ_n ?_
      refine hw_sub _ (ai_cons (t := 2) rfl ai_nil) ?_
      refine hw_ret ?_
      refine ret_i _ (ra_t rfl ra_nil) ?_
      refine ⟨?_, rfl⟩
      rw [show n.toNat = k by omega]; rfl

theorem rHas_spec {s : BSet} {b : Nat} {H : Heap} (hb : b < 256) : HC Try.prog 40 [sv s, .int .i64 b] H (fun v H' => v = .bool (s.has b) ∧ Ext [] H H') := by
  have hx0 : Ext [] H H := Ext.refl _
  have hne : 1#64 <<< ((b : Int) % 64).toNat ≠ 0#64 := BSet.shl_ne _ (by omega)
  refine hc_of_hw (N := 15) (rs := [(.tmp 4)]) Try.func40 rfl rfl rfl rfl ?_
  refine hw_seq ?_
  refine hw_region ?_
  refine hl_h (h_boxS rfl) rfl ?_
  rintro _ H1 ⟨rfl, n2⟩
  have n2s := n2.size
  replace hx0 := Ext.trans hx0 n2.ext
  have n2b := n2.blk
  refine hl_v (v_assign rfl) rfl ?_
  refine hl_nil ?_
  refine thenQ_n ?_
  refine hw_sub _ (ai_cons (t := 1) rfl (ai_cons (t := 2) rfl ai_nil)) ?_
  refine hw_seq ?_
  refine hw_quiet Try.mixed (by kernel_rfl) ?_
  refine hq_v (v_move rfl) rfl ?_
  refine hq_v (v_quo rfl rfl (by first | omega | assumption | (simp only [Int.toNat_natCast]; omega) | (simp; done) | (simp at *; omega))) rfl ?_
  refine hq_v (v_ixS Try.underlying34 Try.sizeOf32 rfl rfl (by first | omega | assumption | (simp only [Int.toNat_natCast]; omega) | (simp; done) | (simp at *; omega))) rfl ?_
  refine hq_v (v_loadW Try.isAgg32 rfl (by first | exact n2b | assumption) (by first | omega | assumption | (simp only [Int.toNat_natCast]; omega) | (simp; done) | (simp at *; omega))) rfl ?_
  refine hq_v (v_move rfl) rfl ?_
  refine hq_v (v_rem rfl rfl (by first | omega | assumption | (simp only [Int.toNat_natCast]; omega) | (simp; done) | (simp at *; omega))) rfl ?_
  refine hq_v (v_call Try.call78 (evs_cons rfl evs_nil) (power_spec (by first | omega | assumption | (simp only [Int.toNat_natCast]; omega) | (simp; done) | (simp at *; omega)))) rfl ?_
  refine hq_v (v_uquo64 rfl rfl (by first | omega | assumption | (simp only [Int.toNat_natCast]; omega) | (simp; done) | (simp at *; omega))) rfl ?_
  refine hq_v (v_urem64 rfl (show _ = some (w64 2#64) from rfl) (by decide)) rfl ?_
  refine hq_v (v_eql64 rfl (show _ = some (w64 1#64) from rfl)) rfl ?_
  refine hq_v (v_assign rfl) rfl ?_
  refine hq_nil ?_
  refine thenQ_n ?_
  refine hw_sub _ (ai_cons (t := 4) rfl ai_nil) ?_
  refine hw_ret ?_
  refine ret_i _ (ra_t rfl ra_nil) ?_
  exact ⟨congrArg Value.bool (BSet.has_quo s hb), hx0⟩

theorem Make_spec {v0 : Value} {l : List Bool} {S : Nat → Prop} {H : Heap} (hs : Sl fBool.rep H S v0 l) (hS : ∀ b, S b → b < H.size) (hl : l.length = 256) : HC Try.prog 103 [v0] H (fun v H' => v = sv (.ofFn (fun m => l.getD m false) 256) ∧ Ext [] H H') := by
  have hx0 : Ext [] H H := Ext.refl _
  refine hc_of_hw (N := 25) (rs := [(.cell 2 34)]) Try.func103 rfl rfl rfl rfl ?_
  refine hw_seq ?_
  refine hw_region ?_
  refine hl_h (h_allocS Try.zeroValue34) rfl ?_
  rintro _ H1 ⟨rfl, n2⟩
  have n2s := n2.size
  replace hx0 := Ext.trans hx0 n2.ext
  replace hs := Sl.ext0 hs n2.ext
  have n2b := n2.blk
  refine hl_nil ?_
  refine thenQ_n ?_
  refine hw_sub _ (ai_cons (t := 0) rfl (ai_cons (t := 2) rfl ai_nil)) ?_
  refine hw_seq ?_
  refine hw_region ?_
  refine hl_h (h_allocS Try.zeroValue34) rfl ?_
  rintro _ H3 ⟨rfl, n4⟩
  have n4s := n4.size
  replace hx0 := Ext.trans hx0 n4.ext
  replace hs := Sl.ext0 hs n4.ext
  replace n2b := Ext.blk n4.ext n2b (by simp)
  have n4b := n4.blk
  refine hl_nil ?_
  refine thenQ_n ?_
  refine hw_sub _ (ai_cons (t := 0) rfl (ai_cons (t := 2) rfl (ai_cons (t := 3) rfl ai_nil))) ?_
  refine hw_seq ?_
  refine hw_seq ?_
  refine hw_region ?_
  refine hl_v (v_assign rfl) rfl ?_
  refine hl_nil ?_
  refine thenQ_n ?_
  refine hw_sub _ (ai_cons (t := 0) rfl (ai_cons (t := 2) rfl (ai_cons (t := 3) rfl (ai_cons (t := 4) rfl ai_nil)))) ?_
  refine hw_block ?_
  refine hw_loop (α := Nat) [(0, _), (2, _), (3, _)] (fun k => [(4, .int .i64 (k : Int))]) (fun k G3 => Ext [] H G3 ∧ Sl fBool.rep G3 S v0 l ∧ Blk G3 H.size (sw .zero) 34 ∧ Blk G3 H1.size (sw (.ofFn (fun m => l.getD m false) k)) 34 ∧ H3.size ≤ G3.size ∧ k ≤ 256) (fun k => 256 - k) 0 (ai_cons (t := 4) rfl (ai_cons (t := 0) rfl (ai_cons (t := 2) rfl (ai_cons (t := 3) rfl ai_nil)))) ?_ ?_
  · exact ⟨hx0, hs, n2b, n4b, Nat.le_refl _, Nat.zero_le _⟩
  · intro k G3 hI
    obtain ⟨hx0, hs, n2b, n4b, hz, hk⟩ := hI
    have hx0z := hx0.size
    refine hw_seq ?_
    refine hw_seq ?_
    refine hw_region ?_
    refine hl_v (v_move rfl) rfl ?_
    refine hl_v (v_lss rfl rfl) rfl ?_
    refine hl_nil ?_
    refine thenQ_n ?_
    refine hw_sub _ (ai_cons (t := 0) rfl (ai_cons (t := 2) rfl (ai_cons (t := 3) rfl (ai_cons (t := 4) rfl (ai_cons (t := 6) rfl ai_nil))))) ?_
    refine hw_cond rfl (fun hc5 => ?_) (fun hc5 => ?_)
    · try simp only [decide_eq_true_eq, decide_eq_false_iff_not, Bool.and_eq_true, Bool.and_eq_false_iff, Bool.or_eq_true, Bool.or_eq_false_iff, Bool.not_eq_true', Bool.not_eq_false', Bool.not_eq_true, Bool.not_eq_false, beq_iff_eq, Int.not_lt, Int.not_le] at hc5
      refine hw_skip ?_
      refine thenQ_n ?_
      refine hw_seq ?_
      refine hw_block ?_
      refine hw_seq ?_
      refine hw_region ?_
      refine hl_v (v_move rfl) rfl ?_
      refine hl_v (v_move rfl) rfl ?_
      refine hl_v (v_ixL Try.underlying136 Try.sizeOf4 rfl rfl (by first | assumption | exact Ow.sl0 (by assumption)) (by first | omega | assumption | (simp only [Int.toNat_natCast]; omega) | (simp; done) | (simp at *; omega))) rfl ?_
      refine hl_v (v_loadSc Try.isAgg4 rfl (by first | assumption | exact Ow.sl0 (by assumption)) rfl (by first | omega | assumption | (simp only [Int.toNat_natCast]; omega) | (simp; done) | (simp at *; omega)) rfl) rfl ?_
      refine hl_nil ?_
      refine thenQ_n ?_
      refine hw_sub _ (ai_cons (t := 0) rfl (ai_cons (t := 2) rfl (ai_cons (t := 3) rfl (ai_cons (t := 4) rfl (ai_cons (t := 12) rfl ai_nil))))) ?_
      refine hw_cond rfl (fun hc6 => ?_) (fun hc6 => ?_)
      · try simp only [decide_eq_true_eq, decide_eq_false_iff_not, Bool.and_eq_true, Bool.and_eq_false_iff, Bool.or_eq_true, Bool.or_eq_false_iff, Bool.not_eq_true', Bool.not_eq_false', Bool.not_eq_true, Bool.not_eq_false, beq_iff_eq, Int.not_lt, Int.not_le] at hc6
        have hb : (BSet.ofFn (fun m => l.getD m false) k).has k = false := by rw [BSet.has_ofFn _ _ hk (by omega)]; simp
        refine hw_held2 11 (fun H' => Ext [] G3 H') (.step 0 false (.step 1 false (.step 2 false (.step 3 false (.step 4 false (.step 5 false (.step 6 false (.step 7 false (.step 8 true (.step 9 false (.step 10 false .done))))))))))) (.step 11 true .done) Try.mixed (by kernel_rfl) ?_ ?_
        · exact Ext.refl _
        have xr7 : Ext [] G3 G3 := Ext.refl _
        have hsR := hs
        have n2bR := n2b
        have n4bR := n4b
        refine hd_v rfl (fun H' hS => (v_move rfl)) rfl ?_
        refine hd_v rfl (fun H' hS => (v_quo rfl rfl (by first | omega | assumption | (simp only [Int.toNat_natCast]; omega) | (simp; done) | (simp at *; omega)))) rfl ?_
        refine hd_v rfl (fun H' hS => (v_move rfl)) rfl ?_
        refine hd_v rfl (fun H' hS => (v_quo rfl rfl (by first | omega | assumption | (simp only [Int.toNat_natCast]; omega) | (simp; done) | (simp at *; omega)))) rfl ?_
        refine hd_v rfl (fun H' hS => (v_ixS Try.underlying34 Try.sizeOf32 rfl rfl (by first | omega | assumption | (simp only [Int.toNat_natCast]; omega) | (simp; done) | (simp at *; omega)))) rfl ?_
        refine hd_v rfl (fun H' hS => (v_loadW Try.isAgg32 rfl (by first | exact Ext.blk hS n4bR (by simp) | exact n4b | exact Ext.blk hS (by first | assumption | exact Ext.blk hS (by assumption) (by simp) | exact Sl.ext0 (by assumption) hS | exact Sl.ext0 (Ow.sl0 (by assumption)) hS) (by simp)) (by first | omega | assumption | (simp only [Int.toNat_natCast]; omega) | (simp; done) | (simp at *; omega)))) rfl ?_
        refine hd_v rfl (fun H' hS => (v_move rfl)) rfl ?_
        refine hd_v rfl (fun H' hS => (v_rem rfl rfl (by first | omega | assumption | (simp only [Int.toNat_natCast]; omega) | (simp; done) | (simp at *; omega)))) rfl ?_
        refine hd_h (OpV.toH (v_call Try.call78 (evs_cons rfl evs_nil) (power_spec (by first | omega | assumption | (simp only [Int.toNat_natCast]; omega) | (simp; done) | (simp at *; omega))))) (fun _ _ hR => hR.2 ▸ xr7) rfl ?_
        rintro _ _ ⟨rfl, rfl⟩
        refine hd_v rfl (fun H' hS => (v_add64 rfl rfl)) rfl ?_
        refine hd_v rfl (fun H' hS => (v_ixS Try.underlying34 Try.sizeOf32 rfl rfl (by first | omega | assumption | (simp only [Int.toNat_natCast]; omega) | (simp; done) | (simp at *; omega)))) rfl ?_
        refine hd_nil ?_
        refine hd_s (h_storeW Try.sizeOf32 rfl rfl n4b (by first | omega | assumption | (simp only [Int.toNat_natCast]; omega) | (simp; done) | (simp at *; omega))) (fun _ _ _ => trivial) ?_
        rintro _ H8 p9
        have p9s := p9.size
        replace hx0 := Ext.fresh hx0 p9.ext (by intro b hb; simp at hb; omega)
        replace hs := Sl.ext hs p9.ext (by intro b hb; (try have hSb := hS b hb); (try simp only [mb, List.mem_singleton] at hb); simp; omega)
        replace n2b := Ext.blk p9.ext n2b (by (try simp only [mb, List.mem_singleton] at hb); simp; omega)
        replace n4b := p9.blk
        refine hd_nil ?_
        refine blockQ_n ?_
        refine thenQ_n ?_
        refine hw_region ?_
        refine hl_v (v_move rfl) rfl ?_
        refine hl_v (v_add rfl rfl (by first | omega | assumption | (simp only [Int.toNat_natCast]; omega) | (simp; done) | (simp at *; omega))) rfl ?_
        refine hl_v (v_assign rfl) rfl ?_
        refine hl_nil ?_
        refine thenQ_n ?_
        refine ⟨k + 1, (ai_cons (t := 4) rfl (ai_cons (t := 0) rfl (ai_cons (t := 2) rfl (ai_cons (t := 3) rfl ai_nil)))), ?_, ?_⟩
        · skip
          exact ⟨hx0, hs, n2b, (by first | (rw [BSet.ofFn_succ, if_pos (by assumption), ← BSet.add_bit _ hb]; exact n4b) | (rw [BSet.ofFn_succ, if_neg (by rw [Bool.not_eq_true]; assumption)]; exact n4b)), (by omega), by omega⟩
        · omega
      · try simp only [decide_eq_true_eq, decide_eq_false_iff_not, Bool.and_eq_true, Bool.and_eq_false_iff, Bool.or_eq_true, Bool.or_eq_false_iff, Bool.not_eq_true', Bool.not_eq_false', Bool.not_eq_true, Bool.not_eq_false, beq_iff_eq, Int.not_lt, Int.not_le] at hc6
        refine hw_skip ?_
        refine blockQ_n ?_
        refine thenQ_n ?_
        refine hw_region ?_
        refine hl_v (v_move rfl) rfl ?_
        refine hl_v (v_add rfl rfl (by first | omega | assumption | (simp only [Int.toNat_natCast]; omega) | (simp; done) | (simp at *; omega))) rfl ?_
        refine hl_v (v_assign rfl) rfl ?_
        refine hl_nil ?_
        refine thenQ_n ?_
        refine ⟨k + 1, (ai_cons (t := 4) rfl (ai_cons (t := 0) rfl (ai_cons (t := 2) rfl (ai_cons (t := 3) rfl ai_nil)))), ?_, ?_⟩
        · skip
          exact ⟨hx0, hs, n2b, (by first | (rw [BSet.ofFn_succ, if_pos (by assumption), ← BSet.add_bit _ hb]; exact n4b) | (rw [BSet.ofFn_succ, if_neg (by rw [Bool.not_eq_true]; assumption)]; exact n4b)), (by omega), by omega⟩
        · omega
    · try simp only [decide_eq_true_eq, decide_eq_false_iff_not, Bool.and_eq_true, Bool.and_eq_false_iff, Bool.or_eq_true, Bool.or_eq_false_iff, Bool.not_eq_true', Bool.not_eq_false', Bool.not_eq_true, Bool.not_eq_false, beq_iff_eq, Int.not_lt, Int.not_le] at hc5
      refine hw_exit ?_
      refine thenQ_e ?_
      refine thenQ_e ?_
      refine blockQ_hit ?_
      refine thenQ_n ?_
      refine hw_seq ?_
      refine hw_region ?_
      refine hl_v (v_loadS Try.isAgg34 Try.sizeOf34 rfl (by first | exact n4b | assumption)) rfl ?_
      refine hl_s (h_storeS Try.sizeOf34 rfl rfl n2b) ?_
      rintro _ H10 p11
      have p11s := p11.size
      replace hx0 := Ext.fresh hx0 p11.ext (by intro b hb; simp at hb; omega)
      replace hs := Sl.ext hs p11.ext (by intro b hb; (try have hSb := hS b hb); (try simp only [mb, List.mem_singleton] at hb); simp; omega)
      replace n4b := Ext.blk p11.ext n4b (by (try simp only [mb, List.mem_singleton] at hb); simp; omega)
      replace n2b := p11.blk
      refine hl_nil ?_
      refine thenQ_n ?_
      refine hw_sub _ (ai_cons (t := 2) rfl ai_nil) ?_
      refine hw_ret ?_
      refine ret_i _ (ra_c rfl (fun w hw => run_loadVar_at Try.isAgg34 Try.sizeOf34 (Blk.at0 (by assumption)) rfl w hw) ra_nil) ?_
      obtain rfl : k = 256 := by omega
      exact ⟨rfl, hx0⟩

theorem rOf_spec {v0 : Value} {l : List UInt8} {S : Nat → Prop} {H : Heap} (hs : Sl fByte.rep H S v0 l) (hS : ∀ b, S b → b < H.size) : HC Try.prog 82 [v0] H (fun v H' => v = sv (.ofL l) ∧ Ext [] H H') := by
  have hx0 : Ext [] H H := Ext.refl _
  have hcap := hs.cap
  refine hc_of_hw (N := 20) (rs := [(.cell 2 34)]) Try.func82 rfl rfl rfl rfl ?_
  refine hw_seq ?_
  refine hw_region ?_
  refine hl_h (h_allocS Try.zeroValue34) rfl ?_
  rintro _ H1 ⟨rfl, n2⟩
  have n2s := n2.size
  replace hx0 := Ext.trans hx0 n2.ext
  replace hs := Sl.ext0 hs n2.ext
  have n2b := n2.blk
  refine hl_nil ?_
  refine thenQ_n ?_
  refine hw_sub _ (ai_cons (t := 0) rfl (ai_cons (t := 2) rfl ai_nil)) ?_
  refine hw_seq ?_
  refine hw_region ?_
  refine hl_h (h_makeSlice (g := fBool) (d := default) (B := H1.size) Try.underlying136 Try.type4 rfl rfl rfl (by decide) rfl rfl (by first | omega | assumption | (simp only [Int.toNat_natCast]; omega) | (simp; done) | (simp at *; omega)) (by first | omega | assumption | (simp only [Int.toNat_natCast]; omega) | (simp; done) | (simp at *; omega)) (by rw [show Try.t4.bytes = 1 from rfl]; (first | omega | assumption | (simp only [Int.toNat_natCast]; omega) | (simp; done) | (simp at *; omega))) (by first | omega | assumption | (simp only [Int.toNat_natCast]; omega) | (simp; done) | (simp at *; omega))) rfl ?_
  rintro _ H3 ⟨rfl, n4o, n4x, n4s⟩
  replace hx0 := Ext.trans hx0 n4x
  replace hs := Sl.ext0 hs n4x
  replace n2b := Ext.blk n4x n2b (by simp)
  refine hl_v (v_assign rfl) rfl ?_
  refine hl_nil ?_
  refine thenQ_n ?_
  refine hw_sub _ (ai_cons (t := 0) rfl (ai_cons (t := 2) rfl (ai_cons (t := 3) rfl ai_nil))) ?_
  refine hw_seq ?_
  refine hw_seq ?_
  refine hw_region ?_
  refine hl_v (v_assign rfl) rfl ?_
  refine hl_nil ?_
  refine thenQ_n ?_
  refine hw_sub _ (ai_cons (t := 0) rfl (ai_cons (t := 2) rfl (ai_cons (t := 3) rfl (ai_cons (t := 4) rfl ai_nil)))) ?_
  refine hw_block ?_
  refine hw_loop (α := Nat) [(0, _), (2, _), (3, _)] (fun k => [(4, .int .i64 (k : Int))]) (fun k G3 => Ext [] H G3 ∧ Sl fByte.rep G3 S v0 l ∧ Blk G3 H.size (sw .zero) 34 ∧ Ow fBool G3 H1.size 4 (.slice (some ⟨H1.size, 0, none⟩) (256 : Int).toNat (256 : Int).toNat) (marks l k) ∧ H3.size ≤ G3.size ∧ k ≤ l.length) (fun k => l.length - k) 0 (ai_cons (t := 4) rfl (ai_cons (t := 0) rfl (ai_cons (t := 2) rfl (ai_cons (t := 3) rfl ai_nil)))) ?_ ?_
  · exact ⟨hx0, hs, n2b, (n4o.congr (marks_zero l)), Nat.le_refl _, Nat.zero_le _⟩
  · intro k G3 hI
    obtain ⟨hx0, hs, n2b, n4o, hz, hk⟩ := hI
    have hx0z := hx0.size
    have htl := marks_len l k
    refine hw_seq ?_
    refine hw_seq ?_
    refine hw_region ?_
    refine hl_v (v_move rfl) rfl ?_
    refine hl_v (v_move rfl) rfl ?_
    refine hl_v (v_lenL rfl Try.underlying94 rfl (by first | assumption | exact Ow.sl0 (by assumption))) rfl ?_
    refine hl_v (v_lss rfl rfl) rfl ?_
    refine hl_nil ?_
    refine thenQ_n ?_
    refine hw_sub _ (ai_cons (t := 0) rfl (ai_cons (t := 2) rfl (ai_cons (t := 3) rfl (ai_cons (t := 4) rfl (ai_cons (t := 9) rfl ai_nil))))) ?_
    refine hw_cond rfl (fun hc5 => ?_) (fun hc5 => ?_)
    · try simp only [decide_eq_true_eq, decide_eq_false_iff_not, Bool.and_eq_true, Bool.and_eq_false_iff, Bool.or_eq_true, Bool.or_eq_false_iff, Bool.not_eq_true', Bool.not_eq_false', Bool.not_eq_true, Bool.not_eq_false, beq_iff_eq, Int.not_lt, Int.not_le] at hc5
      refine hw_skip ?_
      refine thenQ_n ?_
      refine hw_seq ?_
      refine hw_block ?_
      have hbyte := (l.getD k default).toNat_lt
      refine hw_region ?_
      refine hl_v (v_move rfl) rfl ?_
      refine hl_v (v_move rfl) rfl ?_
      refine hl_v (v_move rfl) rfl ?_
      refine hl_v (v_ixL Try.underlying94 Try.sizeOf5 rfl rfl (by first | assumption | exact Ow.sl0 (by assumption)) (by first | omega | assumption | (simp only [Int.toNat_natCast]; omega) | (simp; done) | (simp at *; omega))) rfl ?_
      refine hl_v (v_loadSc Try.isAgg5 rfl (by first | assumption | exact Ow.sl0 (by assumption)) rfl (by first | omega | assumption | (simp only [Int.toNat_natCast]; omega) | (simp; done) | (simp at *; omega)) rfl) rfl ?_
      refine hl_v (v_ixL Try.underlying136 Try.sizeOf4 rfl rfl (by first | assumption | exact Ow.sl0 (by assumption)) (by first | omega | assumption | (simp only [Int.toNat_natCast]; omega) | (simp; done) | (simp at *; omega))) rfl ?_
      refine hl_s (h_storeOw1 Try.sizeOf4 rfl rfl rfl rfl n4o (by first | omega | assumption | (simp only [Int.toNat_natCast]; omega) | (simp; done) | (simp at *; omega)) rfl rfl) ?_
      rintro _ H6 p7
      have p7s := p7.size
      replace hx0 := Ext.fresh hx0 p7.ext (by intro b hb; exact Or.inl (Nat.le_trans (by omega) (Ow.lt n4o b hb).1))
      replace hs := Sl.ext hs p7.ext (by intro b hb; (try have hSb := hS b hb); intro hm; have hlt := Ow.lt n4o _ hm; (try simp only [mb, List.mem_singleton] at hb); (try simp only [mb, List.mem_singleton] at hm); omega)
      replace n2b := Ext.blk p7.ext n2b (by intro hm; have hlt := Ow.lt n4o _ hm; (try simp only [mb, List.mem_singleton] at hb); (try simp only [mb, List.mem_singleton] at hm); omega)
      replace n4o := p7.ow
      refine hl_nil ?_
      refine blockQ_n ?_
      refine thenQ_n ?_
      refine hw_region ?_
      refine hl_v (v_move rfl) rfl ?_
      refine hl_v (v_add rfl rfl (by first | omega | assumption | (simp only [Int.toNat_natCast]; omega) | (simp; done) | (simp at *; omega))) rfl ?_
      refine hl_v (v_assign rfl) rfl ?_
      refine hl_nil ?_
      refine thenQ_n ?_
      refine ⟨k + 1, (ai_cons (t := 4) rfl (ai_cons (t := 0) rfl (ai_cons (t := 2) rfl (ai_cons (t := 3) rfl ai_nil)))), ?_, ?_⟩
      · skip
        exact ⟨hx0, hs, n2b, (n4o.congr (marks_succ (by omega))), (by omega), by omega⟩
      · omega
    · try simp only [decide_eq_true_eq, decide_eq_false_iff_not, Bool.and_eq_true, Bool.and_eq_false_iff, Bool.or_eq_true, Bool.or_eq_false_iff, Bool.not_eq_true', Bool.not_eq_false', Bool.not_eq_true, Bool.not_eq_false, beq_iff_eq, Int.not_lt, Int.not_le] at hc5
      refine hw_exit ?_
      refine thenQ_e ?_
      refine thenQ_e ?_
      refine blockQ_hit ?_
      refine thenQ_n ?_
      refine hw_seq ?_
      refine hw_region ?_
      refine hl_v (v_move rfl) rfl ?_
      refine hl_h (h_call Try.call103 (evs_cons rfl evs_nil) (Make_spec (by first | assumption | exact Ow.sl0 (by assumption)) (by first | assumption | exact fun _ h => h | exact fun b hb => (Ow.lt (by assumption) b hb).2 | (intro b hb; have hSb := hS b hb; omega)) (by first | assumption | simp [tab_len]))) rfl ?_
      rintro _ H8 ⟨rfl, n9⟩
      have n9s := n9.size
      replace hx0 := Ext.trans hx0 n9
      replace hs := Sl.ext0 hs n9
      replace n2b := Ext.blk n9 n2b (by simp)
      replace n4o := Ow.ext0 n4o n9
      refine hl_s (h_storeS Try.sizeOf34 rfl rfl n2b) ?_
      rintro _ H10 p11
      have p11s := p11.size
      replace hx0 := Ext.fresh hx0 p11.ext (by intro b hb; simp at hb; omega)
      replace hs := Sl.ext hs p11.ext (by intro b hb; (try have hSb := hS b hb); (try simp only [mb, List.mem_singleton] at hb); simp; omega)
      replace n4o := Ow.ext n4o p11.ext (by intro b hb; have hlb := Ow.lt n4o b hb; (try simp only [mb, List.mem_singleton] at hb); simp; omega)
      replace n2b := p11.blk
      refine hl_nil ?_
      refine thenQ_n ?_
      refine hw_sub _ (ai_cons (t := 2) rfl ai_nil) ?_
      refine hw_ret ?_
      refine ret_i _ (ra_c rfl (fun w hw => run_loadVar_at Try.isAgg34 Try.sizeOf34 (Blk.at0 (by assumption)) rfl w hw) ra_nil) ?_
      exact ⟨congrArg sv (BSet.ofFn_marks l (by omega)), hx0⟩

end Go.Proofs.Ytbaciogbhjcdoaa
