/- Walks: functions do as their plain formulas say. No condition. -/
import Derived.Test.YtbaciogbhjcdoaaProg
import Derived.Test.YtbaciogbhjcdoaaSep4
import Derived.Test.YtbaciogbhjcdoaaP10m
import Derived.Test.YtbaciogbhjcdoaaSep7
import Derived.Test.YtbaciogbhjcdoaaG10j
set_option linter.unusedVariables false
set_option linter.unusedSimpArgs false
set_option maxRecDepth 20000
namespace Go.Proofs.Ytbaciogbhjcdoaa
open Go.Proofs
theorem mul64_ok {x : BitVec 64} {y : BitVec 64}  {Q : (BitVec 64) → (BitVec 64) → Prop} {H : Heap} {Z : Nat → Prop} {L : List As} (h : wp_mul64 x y Q) (hO : Own H Z (L))  : HC Try.prog 102 [w64 x, w64 y] H (fun v H' => ∃ (r0 : BitVec 64) (r1 : BitVec 64) , Q r0 r1 ∧ v = .tuple #[w64 r0, w64 r1] ∧ H' = H) := by
  have hZ : ∀ b, Z b → Z b := fun _ h => h
  unfold wp_mul64 at h
  refine hc_of_hw (N := 51) (rs := [(.tmp 4), (.tmp 5)]) Try.func102 rfl rfl rfl rfl ?_
  refine hw_seq ?_
  refine hw_region ?_
  refine hl_v (v_assign rfl) rfl ?_
  refine hl_v (v_assign rfl) rfl ?_
  refine hl_nil ?_
  refine thenQ_n ?_
  refine hw_sub _ (ai_cons (t := 0) rfl (ai_cons (t := 1) rfl ai_nil)) ?_
  refine hw_seq ?_
  refine hw_region ?_
  refine hl_v (v_move rfl) rfl ?_
  refine hl_v (v_and64 rfl (show _ = some (w64 4294967295#64) from rfl)) rfl ?_
  refine hl_v (v_assign rfl) rfl ?_
  refine hl_nil ?_
  refine thenQ_n ?_
  refine hw_sub _ (ai_cons (t := 0) rfl (ai_cons (t := 1) rfl (ai_cons (t := 6) rfl ai_nil))) ?_
  refine hw_seq ?_
  refine hw_region ?_
  refine hl_v (v_move rfl) rfl ?_
  refine hl_v (v_shr64 (n := 32) rfl rfl (by decide)) rfl ?_
  refine hl_v (v_assign rfl) rfl ?_
  refine hl_nil ?_
  refine thenQ_n ?_
  refine hw_sub _ (ai_cons (t := 0) rfl (ai_cons (t := 1) rfl (ai_cons (t := 6) rfl (ai_cons (t := 7) rfl ai_nil)))) ?_
  refine hw_seq ?_
  refine hw_region ?_
  refine hl_v (v_move rfl) rfl ?_
  refine hl_v (v_and64 rfl (show _ = some (w64 4294967295#64) from rfl)) rfl ?_
  refine hl_v (v_assign rfl) rfl ?_
  refine hl_nil ?_
  refine thenQ_n ?_
  refine hw_sub _ (ai_cons (t := 0) rfl (ai_cons (t := 1) rfl (ai_cons (t := 6) rfl (ai_cons (t := 7) rfl (ai_cons (t := 8) rfl ai_nil))))) ?_
  refine hw_seq ?_
  refine hw_region ?_
  refine hl_v (v_move rfl) rfl ?_
  refine hl_v (v_shr64 (n := 32) rfl rfl (by decide)) rfl ?_
  refine hl_v (v_assign rfl) rfl ?_
  refine hl_nil ?_
  refine thenQ_n ?_
  refine hw_sub _ (ai_cons (t := 0) rfl (ai_cons (t := 1) rfl (ai_cons (t := 6) rfl (ai_cons (t := 7) rfl (ai_cons (t := 8) rfl (ai_cons (t := 9) rfl ai_nil)))))) ?_
  refine hw_seq ?_
  refine hw_region ?_
  refine hl_v (v_move rfl) rfl ?_
  refine hl_v (v_move rfl) rfl ?_
  refine hl_v (v_mul64 rfl rfl) rfl ?_
  refine hl_v (v_assign rfl) rfl ?_
  refine hl_nil ?_
  refine thenQ_n ?_
  refine hw_sub _ (ai_cons (t := 0) rfl (ai_cons (t := 1) rfl (ai_cons (t := 6) rfl (ai_cons (t := 7) rfl (ai_cons (t := 8) rfl (ai_cons (t := 9) rfl (ai_cons (t := 10) rfl ai_nil))))))) ?_
  refine hw_seq ?_
  refine hw_region ?_
  refine hl_v (v_move rfl) rfl ?_
  refine hl_v (v_move rfl) rfl ?_
  refine hl_v (v_mul64 rfl rfl) rfl ?_
  refine hl_v (v_move rfl) rfl ?_
  refine hl_v (v_shr64 (n := 32) rfl rfl (by decide)) rfl ?_
  refine hl_v (v_add64 rfl rfl) rfl ?_
  refine hl_v (v_assign rfl) rfl ?_
  refine hl_nil ?_
  refine thenQ_n ?_
  refine hw_sub _ (ai_cons (t := 0) rfl (ai_cons (t := 1) rfl (ai_cons (t := 6) rfl (ai_cons (t := 7) rfl (ai_cons (t := 9) rfl (ai_cons (t := 11) rfl ai_nil)))))) ?_
  refine hw_seq ?_
  refine hw_region ?_
  refine hl_v (v_move rfl) rfl ?_
  refine hl_v (v_and64 rfl (show _ = some (w64 4294967295#64) from rfl)) rfl ?_
  refine hl_v (v_assign rfl) rfl ?_
  refine hl_nil ?_
  refine thenQ_n ?_
  refine hw_sub _ (ai_cons (t := 0) rfl (ai_cons (t := 1) rfl (ai_cons (t := 6) rfl (ai_cons (t := 7) rfl (ai_cons (t := 9) rfl (ai_cons (t := 11) rfl (ai_cons (t := 12) rfl ai_nil))))))) ?_
  refine hw_seq ?_
  refine hw_region ?_
  refine hl_v (v_move rfl) rfl ?_
  refine hl_v (v_shr64 (n := 32) rfl rfl (by decide)) rfl ?_
  refine hl_v (v_assign rfl) rfl ?_
  refine hl_nil ?_
  refine thenQ_n ?_
  refine hw_sub _ (ai_cons (t := 0) rfl (ai_cons (t := 1) rfl (ai_cons (t := 6) rfl (ai_cons (t := 7) rfl (ai_cons (t := 9) rfl (ai_cons (t := 12) rfl (ai_cons (t := 13) rfl ai_nil))))))) ?_
  refine hw_seq ?_
  refine hw_region ?_
  refine hl_v (v_move rfl) rfl ?_
  refine hl_v (v_move rfl) rfl ?_
  refine hl_v (v_move rfl) rfl ?_
  refine hl_v (v_mul64 rfl rfl) rfl ?_
  refine hl_v (v_add64 rfl rfl) rfl ?_
  refine hl_v (v_assign rfl) rfl ?_
  refine hl_nil ?_
  refine thenQ_n ?_
  refine hw_sub _ (ai_cons (t := 0) rfl (ai_cons (t := 1) rfl (ai_cons (t := 7) rfl (ai_cons (t := 9) rfl (ai_cons (t := 12) rfl (ai_cons (t := 13) rfl ai_nil)))))) ?_
  refine hw_seq ?_
  refine hw_region ?_
  refine hl_v (v_move rfl) rfl ?_
  refine hl_v (v_move rfl) rfl ?_
  refine hl_v (v_mul64 rfl rfl) rfl ?_
  refine hl_v (v_move rfl) rfl ?_
  refine hl_v (v_add64 rfl rfl) rfl ?_
  refine hl_v (v_move rfl) rfl ?_
  refine hl_v (v_shr64 (n := 32) rfl rfl (by decide)) rfl ?_
  refine hl_v (v_add64 rfl rfl) rfl ?_
  refine hl_v (v_assign rfl) rfl ?_
  refine hl_nil ?_
  refine thenQ_n ?_
  refine hw_sub _ (ai_cons (t := 0) rfl (ai_cons (t := 1) rfl (ai_cons (t := 4) rfl ai_nil))) ?_
  refine hw_seq ?_
  refine hw_region ?_
  refine hl_v (v_move rfl) rfl ?_
  refine hl_v (v_move rfl) rfl ?_
  refine hl_v (v_mul64 rfl rfl) rfl ?_
  refine hl_v (v_assign rfl) rfl ?_
  refine hl_nil ?_
  refine thenQ_n ?_
  refine hw_sub _ (ai_cons (t := 4) rfl (ai_cons (t := 5) rfl ai_nil)) ?_
  refine hw_ret ?_
  refine ret_i _ (ra_t rfl (ra_t rfl ra_nil)) ?_
  exact ⟨((((x >>> 32) * (y >>> 32)) + ((((x >>> 32) * (y &&& 4294967295#64)) + (((x &&& 4294967295#64) * (y &&& 4294967295#64)) >>> 32)) >>> 32)) + ((((((x >>> 32) * (y &&& 4294967295#64)) + (((x &&& 4294967295#64) * (y &&& 4294967295#64)) >>> 32)) &&& 4294967295#64) + ((x &&& 4294967295#64) * (y >>> 32))) >>> 32)), (x * y), h, rfl, rfl⟩
theorem mul64_spec {a0 : BitVec 64} {a1 : BitVec 64}  {L : List As} {H : Heap} {Z : Nat → Prop} (hO : Own H Z (L))  : HC Try.prog 102 [w64 a0, w64 a1] H (fun v H' => v = .tuple #[w64 (mulHi a0 a1), w64 ((a0 * a1))] ∧ H' = H) := by
  refine (mul64_ok (x := a0) (y := a1) (@mul64_wp a0 a1) hO).mono ?_
  rintro v H' ⟨r0, r1, hq, hv, hH⟩
  obtain ⟨rfl, rfl⟩ := hq
  exact ⟨hv, hH⟩

theorem mulU_ok {x : BitVec 64} {y : BitVec 64}  {Q : (BitVec 64) → (BitVec 64) → Prop} {H : Heap} {Z : Nat → Prop} {L : List As} (h : wp_mulU x y Q) (hO : Own H Z (L))  : HC Try.prog 81 [w64 x, w64 y] H (fun v H' => ∃ (r0 : BitVec 64) (r1 : BitVec 64) , Q r0 r1 ∧ v = .tuple #[w64 r0, w64 r1] ∧ H' = H) := by
  have hZ : ∀ b, Z b → Z b := fun _ h => h
  unfold wp_mulU at h
  refine hc_of_hw (N := 30) (rs := [(.tmp 4), (.tmp 5)]) Try.func81 rfl rfl rfl rfl ?_
  refine hw_seq ?_
  refine hw_region ?_
  refine hl_v (v_assign rfl) rfl ?_
  refine hl_v (v_assign rfl) rfl ?_
  refine hl_nil ?_
  refine thenQ_n ?_
  refine hw_sub _ (ai_cons (t := 0) rfl (ai_cons (t := 1) rfl ai_nil)) ?_
  refine hw_seq ?_
  refine hw_cond_f rfl ?_
  refine hw_skip ?_
  refine thenQ_n ?_
  refine hw_seq ?_
  refine hw_region ?_
  refine hl_v (v_move rfl) rfl ?_
  refine hl_v (v_move rfl) rfl ?_
  refine hl_v (v_call Try.call102 (evs_cons rfl (evs_cons rfl evs_nil)) (mul64_spec (a0 := x) (a1 := y) hO)) rfl ?_
  refine hl_v (v_move rfl) rfl ?_
  refine hl_v (v_extract rfl rfl) rfl ?_
  refine hl_v (v_extract rfl rfl) rfl ?_
  refine hl_v (v_assign rfl) rfl ?_
  refine hl_v (v_assign rfl) rfl ?_
  refine hl_nil ?_
  refine thenQ_n ?_
  refine hw_sub _ (ai_cons (t := 8) rfl (ai_cons (t := 9) rfl ai_nil)) ?_
  refine hw_seq ?_
  refine hw_region ?_
  refine hl_v (v_move rfl) rfl ?_
  refine hl_v (v_move rfl) rfl ?_
  refine hl_v (v_assign rfl) rfl ?_
  refine hl_v (v_assign rfl) rfl ?_
  refine hl_nil ?_
  refine thenQ_n ?_
  refine hw_sub _ (ai_cons (t := 4) rfl (ai_cons (t := 5) rfl ai_nil)) ?_
  refine hw_ret ?_
  refine ret_i _ (ra_t rfl (ra_t rfl ra_nil)) ?_
  exact ⟨mulHi x y, (x * y), h, rfl, rfl⟩
theorem mulU_spec {a0 : BitVec 64} {a1 : BitVec 64}  {L : List As} {H : Heap} {Z : Nat → Prop} (hO : Own H Z (L))  : HC Try.prog 81 [w64 a0, w64 a1] H (fun v H' => v = .tuple #[w64 (mulHi a0 a1), w64 ((a0 * a1))] ∧ H' = H) := by
  refine (mulU_ok (x := a0) (y := a1) (@mulU_wp a0 a1) hO).mono ?_
  rintro v H' ⟨r0, r1, hq, hv, hH⟩
  obtain ⟨rfl, rfl⟩ := hq
  exact ⟨hv, hH⟩

end Go.Proofs.Ytbaciogbhjcdoaa
