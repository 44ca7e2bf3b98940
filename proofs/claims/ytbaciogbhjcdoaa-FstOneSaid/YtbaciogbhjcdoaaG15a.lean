/- Walks: functions do as their plain formulas say. No condition. -/
import Derived.Test.YtbaciogbhjcdoaaProg
import Derived.Test.YtbaciogbhjcdoaaClr
import Derived.Test.YtbaciogbhjcdoaaP15
import Derived.Test.YtbaciogbhjcdoaaTy15
import Derived.Test.YtbaciogbhjcdoaaLay15
import Derived.Test.YtbaciogbhjcdoaaSort
import Derived.Test.YtbaciogbhjcdoaaG10r
set_option linter.unusedVariables false
set_option linter.unusedSimpArgs false
set_option maxRecDepth 20000
namespace Go.Proofs.Ytbaciogbhjcdoaa
open Go.Proofs
theorem eqv_50_15 (a b : GArc) (w : World) : (Op.equalIn 10000 50 (.agg (fGArc.enc a).toArray) (.agg (fGArc.enc b).toArray)).run Try.prog w = .ok (decide (a = b)) w := by
  have hF := (show ∀ fs, Try.prog.underlying 50 = some (.struct fs) → Try.prog.fieldsOf 50 = fs from fun fs h => by unfold Program.fieldsOf; rw [h]) _ Try.underlying50
  have e : decide (a = b) = (decide (a.From = b.From) && (decide (a.To = b.To) && (decide (a.Set = b.Set) && (decide (a.Out = b.Out) && (decide (a.Copy = b.Copy) && true))))) := by
    obtain ⟨a0, a1, a2, a3, a4⟩ := a; obtain ⟨b0, b1, b2, b3, b4⟩ := b
    rw [Bool.eq_iff_iff]; simp [GArc.mk.injEq]
  rw [e, show (10000 : Nat) = 9999 + 1 from rfl, run_equalIn_struct w 9999 50 _ _ (by rw [hF]; exact Try.underlying50) (by kernel_rfl), hF]
  exact (eqF_cons (by decide) (part1 Try.isAgg3 rfl) (part1 Try.isAgg3 rfl) (eqI Try.underlying3) (eqF_cons (by decide) (part1 Try.isAgg3 rfl) (part1 Try.isAgg3 rfl) (eqI Try.underlying3) (eqF_cons (by decide) (partA Try.isAgg34 Try.sizeOf34 rfl) (partA Try.isAgg34 Try.sizeOf34 rfl) (eqSet (d := 9997) Try.underlying34 Try.underlying32 Try.sizeOf32) (eqF_cons (by decide) (part1 Try.isAgg9 rfl) (part1 Try.isAgg9 rfl) (eqS Try.underlying9) (eqF_cons (by decide) (part1 Try.isAgg4 rfl) (part1 Try.isAgg4 rfl) (eqB Try.underlying4) eqF_nil))))) w
theorem eqv_91_15 (a b : GTip) (w : World) : (Op.equalIn 10000 91 (.agg (fGTip.enc a).toArray) (.agg (fGTip.enc b).toArray)).run Try.prog w = .ok (decide (a = b)) w := by
  have hF := (show ∀ fs, Try.prog.underlying 91 = some (.struct fs) → Try.prog.fieldsOf 91 = fs from fun fs h => by unfold Program.fieldsOf; rw [h]) _ Try.underlying91
  have e : decide (a = b) = (decide (a.State = b.State) && (decide (a.Out = b.Out) && true)) := by
    obtain ⟨a0, a1⟩ := a; obtain ⟨b0, b1⟩ := b
    rw [Bool.eq_iff_iff]; simp [GTip.mk.injEq]
  rw [e, show (10000 : Nat) = 9999 + 1 from rfl, run_equalIn_struct w 9999 91 _ _ (by rw [hF]; exact Try.underlying91) (by kernel_rfl), hF]
  exact (eqF_cons (by decide) (part1 Try.isAgg3 rfl) (part1 Try.isAgg3 rfl) (eqI Try.underlying3) (eqF_cons (by decide) (part1 Try.isAgg9 rfl) (part1 Try.isAgg9 rfl) (eqS Try.underlying9) eqF_nil)) w
def key_91_15 : KeyT Try.prog GTip 91 := keyRec fGTip.enc Try.underlying91 (fun _ _ => rfl) (fun a b w => eqv_91_15 a b w) (fun e x w => run_check_rec Try.underlying91 (List.forall_mem_cons.2 ⟨⟨_, part1 Try.isAgg3 rfl, chk1 Try.underlying3 (by first | exact rfl | exact trivial)⟩, (List.forall_mem_cons.2 ⟨⟨_, part1 Try.isAgg9 rfl, chk1 Try.underlying9 (by first | exact rfl | exact trivial)⟩, (fun f hf => absurd hf List.not_mem_nil)⟩)⟩) w) (fun x => bits_agg (by
  intro v hv
  simp only [fGTip, List.mem_cons, List.not_mem_nil, or_false] at hv
  rcases hv with rfl | rfl <;> first | exact bits_int _ _ | exact bits_str _ | exact bits_bool _))
theorem isNaNI_ok {x : Int}  {Q : Bool → Prop} {H : Heap} {Z : Nat → Prop} {L : List As} (h : wp_isNaNI x Q) (hO : Own H Z (L))  : HC Try.prog 109 [.int .i64 x] H (fun v H' => ∃ (r0 : Bool) , Q r0 ∧ v = .bool r0 ∧ H' = H) := by
 unfold wp_isNaNI at h
 refine hc_of_hw (N := 6) (rs := [(.tmp 2)]) Try.func109 rfl rfl rfl rfl (hw_seq (hw_region (hl_v (v_assign rfl) rfl (hl_nil (thenQ_n (hw_seq (hw_region (hl_v (v_move rfl) rfl (hl_v (v_move rfl) rfl (hl_v (v_neq rfl rfl) rfl (hl_v (v_assign rfl) rfl (hl_nil (thenQ_n (hw_ret (ret_i _ (ra_t rfl ra_nil) ?_)))))))))))))))
 exact ⟨(!decide (x = x)), h, rfl, rfl⟩
theorem isNaNI_spec {a0 : Int}  {L : List As} {H : Heap} {Z : Nat → Prop} (hO : Own H Z (L))  : HC Try.prog 109 [.int .i64 a0] H (fun v H' => v = .bool (false) ∧ H' = H) := by
  refine (isNaNI_ok (x := a0) (@isNaNI_wp a0) hO).mono ?_
  rintro v H' ⟨r0, hq, hv, hH⟩
  obtain rfl := hq
  exact ⟨hv, hH⟩

theorem cmpInt_ok {x : Int} {y : Int}  {Q : Int → Prop} {H : Heap} {Z : Nat → Prop} {L : List As} (h : wp_cmpInt x y Q) (hO : Own H Z (L))  : HC Try.prog 92 [.int .i64 x, .int .i64 y] H (fun v H' => ∃ (r0 : Int) , Q r0 ∧ v = .int .i64 r0 ∧ H' = H) := by
 unfold wp_cmpInt at h
 refine hc_of_hw (N := 20) (rs := [(.tmp 4)]) Try.func92 rfl rfl rfl rfl (hw_seq (hw_region (hl_v (v_assign rfl) rfl (hl_nil (thenQ_n (hw_seq (hw_region (hl_v (v_move rfl) rfl (hl_v (v_call Try.call109 (evs_cons rfl evs_nil) (isNaNI_spec (a0 := x) hO)) rfl (hl_v (v_assign rfl) rfl (hl_nil (thenQ_n (hw_seq (hw_region (hl_v (v_move rfl) rfl (hl_v (v_call Try.call109 (evs_cons rfl evs_nil) (isNaNI_spec (a0 := y) hO)) rfl (hl_v (v_assign rfl) rfl (hl_nil (thenQ_n (hw_seq (hw_seq (hw_region (hl_v (v_move rfl) rfl (hl_nil (thenQ_n (hw_cond_f rfl (hw_skip (thenQ_n (hw_seq (hw_seq (hw_region (hl_v (v_move rfl) rfl (hl_nil (thenQ_n (hw_cond_f rfl (hw_skip (thenQ_n (hw_seq (hw_seq (hw_region (hl_v (v_move rfl) rfl (hl_v (v_move rfl) rfl (hl_v (v_lss rfl rfl) rfl (hl_nil (thenQ_n (hw_cond rfl (fun hc_1 => ?_) (fun hc_1 => ?_)))))))))))))))))))))))))))))))))))))))))))))))
 ·replace h := ite_t h hc_1
  refine hw_seq (hw_region (hl_v (v_assign rfl) rfl (hl_nil (thenQ_n (hw_ret (thenQ_r (ret_i _ (ra_t rfl ra_nil) ?_)))))))
  exact ⟨(-1), h, rfl, rfl⟩
 ·replace h := ite_f h hc_1
  refine hw_skip (thenQ_n (hw_seq (hw_seq (hw_region (hl_v (v_move rfl) rfl (hl_v (v_move rfl) rfl (hl_v (v_gtr rfl rfl) rfl (hl_nil (thenQ_n (hw_sub _ (a_c 19 rfl a_n) (hw_cond rfl (fun hc_2 => ?_) (fun hc_2 => ?_))))))))))))
  ·replace h := ite_t h hc_2
   refine hw_seq (hw_region (hl_v (v_assign rfl) rfl (hl_nil (thenQ_n (hw_ret (thenQ_r (ret_i _ (ra_t rfl ra_nil) ?_)))))))
   exact ⟨1, h, rfl, rfl⟩
  ·replace h := ite_f h hc_2
   refine hw_skip (thenQ_n (hw_seq (hw_region (hl_v (v_assign rfl) rfl (hl_nil (thenQ_n (hw_ret (ret_i _ (ra_t rfl ra_nil) ?_))))))))
   exact ⟨0, h, rfl, rfl⟩
theorem cmpInt_spec {a0 : Int} {a1 : Int}  {L : List As} {H : Heap} {Z : Nat → Prop} (hO : Own H Z (L))  : HC Try.prog 92 [.int .i64 a0, .int .i64 a1] H (fun v H' => v = .int .i64 ((cmpI a0 a1)) ∧ H' = H) := by
  refine (cmpInt_ok (x := a0) (y := a1) (@cmpInt_wp a0 a1) hO).mono ?_
  rintro v H' ⟨r0, hq, hv, hH⟩
  obtain rfl := hq
  exact ⟨hv, hH⟩

theorem isNaNW_ok {x : BitVec 64}  {Q : Bool → Prop} {H : Heap} {Z : Nat → Prop} {L : List As} (h : wp_isNaNW x Q) (hO : Own H Z (L))  : HC Try.prog 140 [w64 x] H (fun v H' => ∃ (r0 : Bool) , Q r0 ∧ v = .bool r0 ∧ H' = H) := by
 unfold wp_isNaNW at h
 refine hc_of_hw (N := 6) (rs := [(.tmp 2)]) Try.func140 rfl rfl rfl rfl (hw_seq (hw_region (hl_v (v_assign rfl) rfl (hl_nil (thenQ_n (hw_seq (hw_region (hl_v (v_move rfl) rfl (hl_v (v_move rfl) rfl (hl_v (v_neq64 rfl rfl) rfl (hl_v (v_assign rfl) rfl (hl_nil (thenQ_n (hw_ret (ret_i _ (ra_t rfl ra_nil) ?_)))))))))))))))
 exact ⟨(!decide (x = x)), h, rfl, rfl⟩
theorem isNaNW_spec {a0 : BitVec 64}  {L : List As} {H : Heap} {Z : Nat → Prop} (hO : Own H Z (L))  : HC Try.prog 140 [w64 a0] H (fun v H' => v = .bool (false) ∧ H' = H) := by
  refine (isNaNW_ok (x := a0) (@isNaNW_wp a0) hO).mono ?_
  rintro v H' ⟨r0, hq, hv, hH⟩
  obtain rfl := hq
  exact ⟨hv, hH⟩

theorem cmpWord_ok {x : BitVec 64} {y : BitVec 64}  {Q : Int → Prop} {H : Heap} {Z : Nat → Prop} {L : List As} (h : wp_cmpWord x y Q) (hO : Own H Z (L))  : HC Try.prog 111 [w64 x, w64 y] H (fun v H' => ∃ (r0 : Int) , Q r0 ∧ v = .int .i64 r0 ∧ H' = H) := by
 unfold wp_cmpWord at h
 refine hc_of_hw (N := 20) (rs := [(.tmp 4)]) Try.func111 rfl rfl rfl rfl (hw_seq (hw_region (hl_v (v_assign rfl) rfl (hl_nil (thenQ_n (hw_seq (hw_region (hl_v (v_move rfl) rfl (hl_v (v_call Try.call140 (evs_cons rfl evs_nil) (isNaNW_spec (a0 := x) hO)) rfl (hl_v (v_assign rfl) rfl (hl_nil (thenQ_n (hw_seq (hw_region (hl_v (v_move rfl) rfl (hl_v (v_call Try.call140 (evs_cons rfl evs_nil) (isNaNW_spec (a0 := y) hO)) rfl (hl_v (v_assign rfl) rfl (hl_nil (thenQ_n (hw_seq (hw_seq (hw_region (hl_v (v_move rfl) rfl (hl_nil (thenQ_n (hw_cond_f rfl (hw_skip (thenQ_n (hw_seq (hw_seq (hw_region (hl_v (v_move rfl) rfl (hl_nil (thenQ_n (hw_cond_f rfl (hw_skip (thenQ_n (hw_seq (hw_seq (hw_region (hl_v (v_move rfl) rfl (hl_v (v_move rfl) rfl (hl_v (v_lss64 rfl rfl) rfl (hl_nil (thenQ_n (hw_cond rfl (fun hc_1 => ?_) (fun hc_1 => ?_)))))))))))))))))))))))))))))))))))))))))))))))
 ·replace h := ite_t h hc_1
  refine hw_seq (hw_region (hl_v (v_assign rfl) rfl (hl_nil (thenQ_n (hw_ret (thenQ_r (ret_i _ (ra_t rfl ra_nil) ?_)))))))
  exact ⟨(-1), h, rfl, rfl⟩
 ·replace h := ite_f h hc_1
  refine hw_skip (thenQ_n (hw_seq (hw_seq (hw_region (hl_v (v_move rfl) rfl (hl_v (v_move rfl) rfl (hl_v (v_gtr64 rfl rfl) rfl (hl_nil (thenQ_n (hw_sub _ (a_c 19 rfl a_n) (hw_cond rfl (fun hc_2 => ?_) (fun hc_2 => ?_))))))))))))
  ·replace h := ite_t h hc_2
   refine hw_seq (hw_region (hl_v (v_assign rfl) rfl (hl_nil (thenQ_n (hw_ret (thenQ_r (ret_i _ (ra_t rfl ra_nil) ?_)))))))
   exact ⟨1, h, rfl, rfl⟩
  ·replace h := ite_f h hc_2
   refine hw_skip (thenQ_n (hw_seq (hw_region (hl_v (v_assign rfl) rfl (hl_nil (thenQ_n (hw_ret (ret_i _ (ra_t rfl ra_nil) ?_))))))))
   exact ⟨0, h, rfl, rfl⟩
theorem cmpWord_spec {a0 : BitVec 64} {a1 : BitVec 64}  {L : List As} {H : Heap} {Z : Nat → Prop} (hO : Own H Z (L))  : HC Try.prog 111 [w64 a0, w64 a1] H (fun v H' => v = .int .i64 ((cmpW a0 a1)) ∧ H' = H) := by
  refine (cmpWord_ok (x := a0) (y := a1) (@cmpWord_wp a0 a1) hO).mono ?_
  rintro v H' ⟨r0, hq, hv, hH⟩
  obtain rfl := hq
  exact ⟨hv, hH⟩

theorem cmpWords_ok {s1 : List (BitVec 64)} {s2 : List (BitVec 64)} {v_1 : Value} {v_3 : Value} {Q : Int → Prop} {H : Heap} {Z : Nat → Prop} {L : List As} (h : wp_cmpWords s1 s2 Q) (hO : Own H Z (L)) (hr_2 : Rd fWord.rep L v_1 s1) (hr_4 : Rd fWord.rep L v_3 s2) : HC Try.prog 97 [v_1, v_3] H (fun v H' => ∃ (r0 : Int) , Q r0 ∧ v = .int .i64 r0 ∧ H' = H) := by
 unfold wp_cmpWords at h
 refine hc_of_hw (N := 36) (rs := [(.tmp 4)]) Try.func97 rfl rfl rfl rfl (hw_seq (hw_region (hl_v (v_assign rfl) rfl (hl_nil (thenQ_n (hw_seq (hw_seq (hw_region (hl_v (v_move rfl) rfl ?_)))))))))
 have hln_5 := Sl.cap (Rd.sl hr_2 hO)
 refine hl_v (v_lenL rfl Try.underlying127 rfl (Rd.sl hr_2 hO)) rfl (hl_v (v_move rfl) rfl (hl_nil (thenQ_n (hw_block ?_))))
 obtain ⟨I_6, h, hI_8⟩ := h
 refine hw_lp (fun n' g' H' => ∃ (k : Nat) (Z' : Nat → Prop), n' = s1.length - k ∧ g' = [(0, v_1), (1, v_3), (9, v_1), (10, .int .i64 (s1.length : Int)), (11, .int .i64 (k : Int))] ∧ I_6 k ∧ k ≤ s1.length ∧ Own H' Z' (L) ∧ H = H') _ _ (a_c 0 rfl (a_c 1 rfl (a_c 9 rfl (a_c 10 rfl (a_c 11 rfl a_n))))) ⟨0, _, rfl, rfl, h, by omega, hO, rfl⟩ ?_
 rintro _ _ H_9 ⟨k, Z_10, rfl, rfl, h, hb_11, hO, rfl⟩
 replace h := hI_8 k h hb_11
 refine hw_seq (hw_region (hl_v (v_lss rfl rfl) rfl (hl_nil (thenQ_n (hw_seq (hw_cond rfl (fun hc_12 => ?_) (fun hc_12 => ?_)))))))
 ·replace h := ite_t h hc_12
  refine hw_skip (thenQ_n (hw_seq (hw_block (hw_seq (hw_region (hl_v (v_move rfl) rfl (hl_v (v_ixL Try.underlying127 Try.sizeOf32 rfl rfl (Rd.sl hr_2 hO) (by exact ⟨Int.natCast_nonneg _, of_decide_eq_true hc_12⟩)) rfl (hl_v (v_loadSc Try.isAgg32 rfl (Rd.sl hr_2 hO) rfl (by exact ⟨Int.natCast_nonneg _, of_decide_eq_true hc_12⟩) rfl) rfl (hl_v (v_assign rfl) rfl (hl_v (v_assign rfl) rfl (hl_nil (thenQ_n (hw_seq (hw_seq (hw_region (hl_v (v_move rfl) rfl (hl_v (v_move rfl) rfl ?_)))))))))))))))))
  have hln_13 := Sl.cap (Rd.sl hr_4 hO)
  refine hl_v (v_lenL rfl Try.underlying127 rfl (Rd.sl hr_4 hO)) rfl (hl_v (v_geq rfl rfl) rfl (hl_nil (thenQ_n (hw_sub _ (a_c 0 rfl (a_c 1 rfl (a_c 5 rfl (a_c 6 rfl (a_c 9 rfl (a_c 10 rfl (a_c 11 rfl (a_c 19 rfl a_n)))))))) (hw_cond rfl (fun hc_14 => ?_) (fun hc_14 => ?_))))))
  ·replace h := ite_t h hc_14
   refine hw_seq (hw_region (hl_v (v_assign rfl) rfl (hl_nil (thenQ_n (hw_ret (thenQ_r (blockQ_r (thenQ_r (thenQ_r (blockQ_r (thenQ_r (ret_i _ (ra_t rfl ra_nil) ?_))))))))))))
   exact ⟨1, h, rfl, rfl⟩
  ·replace h := ite_f h hc_14
   refine hw_skip (thenQ_n (hw_seq (hw_region (hl_v (v_move rfl) rfl (hl_v (v_move rfl) rfl ?_)))))
   obtain ⟨hs_15, h⟩ := h
   refine hl_v (v_ixL Try.underlying127 Try.sizeOf32 rfl rfl (Rd.sl hr_4 hO) hs_15) rfl (hl_v (v_loadSc Try.isAgg32 rfl (Rd.sl hr_4 hO) rfl hs_15 rfl) rfl (hl_v (v_assign rfl) rfl (hl_nil (thenQ_n (hw_seq (hw_region (hl_v (v_move rfl) rfl (hl_v (v_move rfl) rfl (hl_v (v_call Try.call111 (evs_cons rfl (evs_cons rfl evs_nil)) (cmpWord_spec (a0 := (s1.getD k default)) (a1 := (s2.getD k default)) hO)) rfl (hl_v (v_assign rfl) rfl (hl_nil (thenQ_n (hw_sub _ (a_c 0 rfl (a_c 1 rfl (a_c 8 rfl (a_c 9 rfl (a_c 10 rfl (a_c 11 rfl a_n)))))) (hw_seq (hw_region (hl_v (v_move rfl) rfl (hl_v (v_neq rfl rfl) rfl (hl_nil (thenQ_n (hw_cond rfl (fun hc_16 => ?_) (fun hc_16 => ?_)))))))))))))))))))))
   ·replace h := ite_t h hc_16
    refine hw_seq (hw_region (hl_v (v_move rfl) rfl (hl_v (v_assign rfl) rfl (hl_nil (thenQ_n (hw_ret (blockQ_r (thenQ_r (thenQ_r (blockQ_r (thenQ_r (ret_i _ (ra_t rfl ra_nil) ?_))))))))))))
    exact ⟨(cmpW (s1.getD k default) (s2.getD k default)), h, rfl, rfl⟩
   ·replace h := ite_f h hc_16
    refine hw_skip (blockQ_n (thenQ_n (hw_region (hl_v (v_add rfl rfl (by have hq := of_decide_eq_true hc_12; have hm := hln_5; constructor <;> omega)) rfl (hl_v (v_move rfl) rfl (hl_nil (thenQ_n ?_)))))))
    exact ⟨_, _, (a_c 0 rfl (a_c 1 rfl (a_c 9 rfl (a_c 10 rfl (a_c 11 rfl a_n))))), ⟨k + 1, _, rfl, rfl, h, (by have hq := of_decide_eq_true hc_12; omega), hO, rfl⟩, (by have hq := of_decide_eq_true hc_12; omega)⟩
 ·replace h := ite_f h hc_12
  refine hw_exit (thenQ_e (thenQ_e (blockQ_hit (thenQ_n (hw_seq (hw_seq (hw_region (hl_v (v_move rfl) rfl (hl_v (v_lenL rfl Try.underlying127 rfl (Rd.sl hr_2 hO)) rfl (hl_v (v_move rfl) rfl ?_))))))))))
  have hln_17 := Sl.cap (Rd.sl hr_4 hO)
  refine hl_v (v_lenL rfl Try.underlying127 rfl (Rd.sl hr_4 hO)) rfl (hl_v (v_lss rfl rfl) rfl (hl_nil (thenQ_n (hw_cond rfl (fun hc_18 => ?_) (fun hc_18 => ?_)))))
  ·replace h := ite_t h hc_18
   refine hw_seq (hw_region (hl_v (v_assign rfl) rfl (hl_nil (thenQ_n (hw_ret (thenQ_r (ret_i _ (ra_t rfl ra_nil) ?_)))))))
   exact ⟨(-1), h, rfl, rfl⟩
  ·replace h := ite_f h hc_18
   refine hw_skip (thenQ_n (hw_seq (hw_region (hl_v (v_assign rfl) rfl (hl_nil (thenQ_n (hw_ret (ret_i _ (ra_t rfl ra_nil) ?_))))))))
   exact ⟨0, h, rfl, rfl⟩
theorem cmpWords_spec {a0 : List (BitVec 64)} {a1 : List (BitVec 64)} {v_1 : Value} {v_3 : Value} {L : List As} {H : Heap} {Z : Nat → Prop} (hO : Own H Z (L)) (hr_2 : Rd fWord.rep L v_1 a0) (hr_4 : Rd fWord.rep L v_3 a1) : HC Try.prog 97 [v_1, v_3] H (fun v H' => v = .int .i64 ((cmpL cmpW a0 a1)) ∧ H' = H) := by
  refine (cmpWords_ok (s1 := a0) (s2 := a1) (@cmpWords_wp a0 a1) hO hr_2 hr_4).mono ?_
  rintro v H' ⟨r0, hq, hv, hH⟩
  obtain rfl := hq
  exact ⟨hv, hH⟩

theorem cmpOr_ok {vals : List Int} {v_1 : Value} {Q : Int → Prop} {H : Heap} {Z : Nat → Prop} {L : List As} (h : wp_cmpOr vals Q) (hO : Own H Z (L)) (hr_2 : Rd fInt.rep L v_1 vals) : HC Try.prog 91 [v_1] H (fun v H' => ∃ (r0 : Int) , Q r0 ∧ v = .int .i64 r0 ∧ H' = H) := by
 unfold wp_cmpOr at h
 refine hc_of_hw (N := 18) (rs := [(.tmp 2)]) Try.func91 rfl rfl rfl rfl (hw_seq (hw_region (hl_v (v_assign rfl) rfl (hl_nil (thenQ_n (hw_seq (hw_region (hl_v (v_assign rfl) rfl (hl_nil (thenQ_n (hw_seq (hw_seq (hw_region (hl_v (v_move rfl) rfl ?_))))))))))))))
 have hln_3 := Sl.cap (Rd.sl hr_2 hO)
 refine hl_v (v_lenL rfl Try.underlying22 rfl (Rd.sl hr_2 hO)) rfl (hl_v (v_move rfl) rfl (hl_nil (thenQ_n (hw_block ?_))))
 obtain ⟨I_4, h, hI_6⟩ := h
 refine hw_lp (fun n' g' H' => ∃ (k : Nat) (Z' : Nat → Prop), n' = vals.length - k ∧ g' = [(3, .int .i64 0), (6, v_1), (7, .int .i64 (vals.length : Int)), (8, .int .i64 (k : Int))] ∧ I_4 k ∧ k ≤ vals.length ∧ Own H' Z' (L) ∧ H = H') _ _ (a_c 3 rfl (a_c 6 rfl (a_c 7 rfl (a_c 8 rfl a_n)))) ⟨0, _, rfl, rfl, h, by omega, hO, rfl⟩ ?_
 rintro _ _ H_7 ⟨k, Z_8, rfl, rfl, h, hb_9, hO, rfl⟩
 replace h := hI_6 k h hb_9
 refine hw_seq (hw_region (hl_v (v_lss rfl rfl) rfl (hl_nil (thenQ_n (hw_seq (hw_cond rfl (fun hc_10 => ?_) (fun hc_10 => ?_)))))))
 ·replace h := ite_t h hc_10
  refine hw_skip (thenQ_n (hw_seq (hw_block (hw_seq (hw_region (hl_v (v_ixL Try.underlying22 Try.sizeOf3 rfl rfl (Rd.sl hr_2 hO) (by exact ⟨Int.natCast_nonneg _, of_decide_eq_true hc_10⟩)) rfl (hl_v (v_loadSc Try.isAgg3 rfl (Rd.sl hr_2 hO) rfl (by exact ⟨Int.natCast_nonneg _, of_decide_eq_true hc_10⟩) rfl) rfl (hl_v (v_assign rfl) rfl (hl_nil (thenQ_n (hw_seq (hw_region (hl_v (v_move rfl) rfl (hl_v (v_move rfl) rfl (hl_v (v_neq rfl rfl) rfl (hl_nil (thenQ_n (hw_cond rfl (fun hc_11 => ?_) (fun hc_11 => ?_)))))))))))))))))))
  ·replace h := ite_t h hc_11
   refine hw_seq (hw_region (hl_v (v_move rfl) rfl (hl_v (v_assign rfl) rfl (hl_nil (thenQ_n (hw_ret (blockQ_r (thenQ_r (thenQ_r (blockQ_r (thenQ_r (ret_i _ (ra_t rfl ra_nil) ?_))))))))))))
   exact ⟨(vals.getD k default), h, rfl, rfl⟩
  ·replace h := ite_f h hc_11
   refine hw_skip (blockQ_n (thenQ_n (hw_region (hl_v (v_add rfl rfl (by have hq := of_decide_eq_true hc_10; have hm := hln_3; constructor <;> omega)) rfl (hl_v (v_move rfl) rfl (hl_nil (thenQ_n ?_)))))))
   exact ⟨_, _, (a_c 3 rfl (a_c 6 rfl (a_c 7 rfl (a_c 8 rfl a_n)))), ⟨k + 1, _, rfl, rfl, h, (by have hq := of_decide_eq_true hc_10; omega), hO, rfl⟩, (by have hq := of_decide_eq_true hc_10; omega)⟩
 ·replace h := ite_f h hc_10
  refine hw_exit (thenQ_e (thenQ_e (blockQ_hit (thenQ_n (hw_seq (hw_region (hl_v (v_move rfl) rfl (hl_v (v_assign rfl) rfl (hl_nil (thenQ_n (hw_ret (ret_i _ (ra_t rfl ra_nil) ?_))))))))))))
  exact ⟨0, h, rfl, rfl⟩
theorem cmpOr_spec {a0 : List Int} {v_1 : Value} {L : List As} {H : Heap} {Z : Nat → Prop} (hO : Own H Z (L)) (hr_2 : Rd fInt.rep L v_1 a0) : HC Try.prog 91 [v_1] H (fun v H' => v = .int .i64 ((orL a0)) ∧ H' = H) := by
  refine (cmpOr_ok (vals := a0) (@cmpOr_wp a0) hO hr_2).mono ?_
  rintro v H' ⟨r0, hq, hv, hH⟩
  obtain rfl := hq
  exact ⟨hv, hH⟩

theorem cmpStr0_spec {a0 a1 : List UInt8} {L : List As} {H : Heap} {Z : Nat → Prop} (hO : Own H Z L) : HC Try.prog 86 [str a0, str a1] H (fun v H' => ∃ (Z' : Nat → Prop), (∀ b, Z b → Z' b) ∧ v = .int .i64 (cmpS a0 a1) ∧ Own H' Z' L) := by
  intro w hw
  subst hw
  refine (Go.Proofs.Any.bytealg_CompareString cmpStrL ⟨a0.toArray⟩ ⟨a1.toArray⟩ w).mono ?_
  rintro e w' ⟨rfl, rfl⟩
  exact ⟨_, rfl, .refl _, Z, fun _ h => h, by rw [compareBytes_eq], hO⟩
theorem cmpStr_ok {a : List UInt8} {b : List UInt8}  {Q : Int → Prop} {H : Heap} {Z : Nat → Prop} {L : List As} (h : wp_cmpStr a b Q) (hO : Own H Z (L))  : HC Try.prog 61 [str a, str b] H (fun v H' => ∃ (Z' : Nat → Prop) (r0 : Int) , (∀ b, Z b → Z' b) ∧ Q r0 ∧ v = .int .i64 r0 ∧ Own H' Z' (L)) := by
 replace hO := hO.inZ
 unfold wp_cmpStr at h
 refine hc_of_hw (N := 8) (rs := [(.tmp 4)]) Try.func61 rfl rfl rfl rfl (hw_seq (hw_region (hl_v (v_assign rfl) rfl (hl_nil (thenQ_n (hw_seq (hw_region (hl_v (v_move rfl) rfl (hl_v (v_move rfl) rfl (hl_h (h_call Try.call86 (evs_cons rfl (evs_cons rfl evs_nil)) (cmpStr0_spec (a0 := a) (a1 := b) hO)) rfl ?_))))))))))
 rintro _ H_1 ⟨Z_2, _, rfl, hO⟩
 refine hl_v (v_assign rfl) rfl (hl_nil (thenQ_n (hw_ret (ret_i _ (ra_t rfl ra_nil) ?_))))
 exact ⟨_, (cmpS a b), (hO.inz 0 rfl), h, rfl, (Own.sel (Ls := [inZ Z]) (L := L) [] rfl hO)⟩
theorem cmpStr_spec {a0 : List UInt8} {a1 : List UInt8}  {L : List As} {H : Heap} {Z : Nat → Prop} (hO : Own H Z (L))  : HC Try.prog 61 [str a0, str a1] H (fun v H' => ∃ (Z' : Nat → Prop) , (∀ a1, Z a1 → Z' a1) ∧ v = .int .i64 ((cmpS a0 a1)) ∧ Own H' Z' (L)) := by
  refine (cmpStr_ok (a := a0) (b := a1) (@cmpStr_wp a0 a1) hO).mono ?_
  rintro v H' ⟨Z', r0, hz, hq, hv, hO'⟩
  obtain rfl := hq
  exact ⟨Z', hz, hv, hO'⟩

theorem cmpTips_ok {a : GTip} {b : GTip}  {Q : Int → Prop} {H : Heap} {Z : Nat → Prop} {L : List As} (h : wp_cmpTips a b Q) (hO : Own H Z (L))  : HC Try.prog 64 [.agg (fGTip.enc a).toArray, .agg (fGTip.enc b).toArray] H (fun v H' => ∃ (Z' : Nat → Prop) (r0 : Int) , (∀ b, Z b → Z' b) ∧ Q r0 ∧ v = .int .i64 r0 ∧ Own H' Z' (L)) := by
 replace hO := hO.inZ
 unfold wp_cmpTips at h
 refine hc_of_hw (N := 17) (rs := [(.tmp 4)]) Try.func64 rfl rfl rfl rfl (hw_seq (hw_region (hl_h (o_box (cs := (fGTip.enc a)) hO rfl rfl) rfl ?_)))
 rintro _ H_1 ⟨b_2, rfl, hO⟩
 refine hl_h (o_box (cs := (fGTip.enc b)) hO rfl rfl) rfl ?_
 rintro _ H_3 ⟨b_4, rfl, hO⟩
 refine hl_v (v_assign rfl) rfl (hl_nil (thenQ_n (hw_seq (hw_held2 12 (fun H' => ∃ Z' : Nat → Prop, Own H' Z' (box b_4 (fGTip.enc b) 91 :: box b_2 (fGTip.enc a) 91 :: inZ Z :: L)) (.step 0 false (.step 1 false (.step 2 false (.step 3 false (.step 5 false (.step 6 false (.step 7 false (.step 8 false (.step 4 true (.step 9 true (.step 10 true (.step 11 true .done)))))))))))) (.step 12 true .done) Try.mixed (by kernel_rfl) ⟨_, hO⟩ (hd_v rfl (fun _ _ => (v_fieldA Try.underlying91 rfl Try.sizeOf3 rfl)) rfl (hd_v rfl (fun H' hS => by obtain ⟨Z', hO⟩ := hS; exact (v_load1 Try.isAgg3 rfl (Blk.cell (hO.box 1 rfl) rfl))) rfl (hd_v rfl (fun _ _ => (v_fieldA Try.underlying91 rfl Try.sizeOf3 rfl)) rfl (hd_v rfl (fun H' hS => by obtain ⟨Z', hO⟩ := hS; exact (v_load1 Try.isAgg3 rfl (Blk.cell (hO.box 0 rfl) rfl))) rfl (hd_v rfl (fun _ _ => (v_fieldA Try.underlying91 rfl Try.sizeOf9 rfl)) rfl (hd_v rfl (fun H' hS => by obtain ⟨Z', hO⟩ := hS; exact (v_load1 Try.isAgg9 rfl (Blk.cell (hO.box 1 rfl) rfl))) rfl (hd_v rfl (fun _ _ => (v_fieldA Try.underlying91 rfl Try.sizeOf9 rfl)) rfl (hd_v rfl (fun H' hS => by obtain ⟨Z', hO⟩ := hS; exact (v_load1 Try.isAgg9 rfl (Blk.cell (hO.box 0 rfl) rfl))) rfl (hd_h (OpV.toH (v_call Try.call92 (evs_cons rfl (evs_cons rfl evs_nil)) (cmpInt_spec (a0 := a.State) (a1 := b.State) hO))) (fun _ _ hR => hR.2 ▸ ⟨_, hO⟩) rfl ?_)))))))))))))
 rintro vv HH ⟨hvv, hHH⟩
 obtain rfl := hvv.symm
 obtain rfl := hHH.symm
 refine hd_h (h_call Try.call61 (evs_cons rfl (evs_cons rfl evs_nil)) (cmpStr_spec (a0 := a.Out) (a1 := b.Out) hO)) (by rintro _ H_5 ⟨Z_6, _, rfl, hO⟩; exact ⟨_, hO⟩) rfl ?_
 rintro _ H_5 ⟨Z_6, _, rfl, hO⟩
 refine hd_h (o_lit (g := fInt) (l := [(cmpI a.State b.State), (cmpS a.Out b.Out)]) (xs := [.tmp 9, .tmp 14]) hO Try.underlying22 Try.sizeOf3 Try.zeroValue3 rfl (evs_cons rfl (evs_cons rfl evs_nil)) rfl rfl rfl rfl rfl) (by rintro v_9 H_8 hO; exact ⟨_, (Own.sel (Ls := [own fInt 3 v_9 [(cmpI a.State b.State), (cmpS a.Out b.Out)], box b_4 (fGTip.enc b) 91, box b_2 (fGTip.enc a) 91, inZ Z]) (L := L) [1, 2, 3] rfl hO)⟩) rfl ?_
 rintro v_9 H_8 hO
 refine hd_h (OpV.toH (v_call Try.call91 (evs_cons rfl evs_nil) (cmpOr_spec (a0 := [(cmpI a.State b.State), (cmpS a.Out b.Out)]) hO (Rd.of_own (i := 0) rfl)))) (fun _ _ hR => hR.2 ▸ ⟨_, (Own.sel (Ls := [own fInt 3 v_9 [(cmpI a.State b.State), (cmpS a.Out b.Out)], box b_4 (fGTip.enc b) 91, box b_2 (fGTip.enc a) 91, inZ Z]) (L := L) [1, 2, 3] rfl hO)⟩) rfl ?_
 rintro vv HH ⟨hvv, hHH⟩
 obtain rfl := hvv.symm
 obtain rfl := hHH.symm
 refine hd_nil (hd_h (OpV.toH (v_assign rfl)) (fun _ _ hR => trivial) rfl ?_)
 rintro vv HH ⟨hvv, hHH⟩
 obtain rfl := hvv.symm
 obtain rfl := hHH.symm
 refine hd_nil (thenQ_n (hw_ret (ret_i _ (ra_t rfl ra_nil) ?_)))
 exact ⟨_, (orL [(cmpI a.State b.State), (cmpS a.Out b.Out)]), (hO.inz 3 rfl), h, rfl, (Own.sel (Ls := [own fInt 3 v_9 [(cmpI a.State b.State), (cmpS a.Out b.Out)], box b_4 (fGTip.enc b) 91, box b_2 (fGTip.enc a) 91, inZ Z]) (L := L) [] rfl hO)⟩
theorem cmpTips_spec {a0 : GTip} {a1 : GTip}  {L : List As} {H : Heap} {Z : Nat → Prop} (hO : Own H Z (L))  : HC Try.prog 64 [.agg (fGTip.enc a0).toArray, .agg (fGTip.enc a1).toArray] H (fun v H' => ∃ (Z' : Nat → Prop) , (∀ a1, Z a1 → Z' a1) ∧ v = .int .i64 ((cmpTip a0 a1)) ∧ Own H' Z' (L)) := by
  refine (cmpTips_ok (a := a0) (b := a1) (@cmpTips_wp a0 a1) hO).mono ?_
  rintro v H' ⟨Z', r0, hz, hq, hv, hO'⟩
  obtain rfl := hq
  exact ⟨Z', hz, hv, hO'⟩

theorem copies_ok {x : GArc}  {Q : Int → Prop} {H : Heap} {Z : Nat → Prop} {L : List As} (h : wp_copies x Q) (hO : Own H Z (L))  : HC Try.prog 96 [.agg (fGArc.enc x).toArray] H (fun v H' => ∃ (Z' : Nat → Prop) (r0 : Int) , (∀ b, Z b → Z' b) ∧ Q r0 ∧ v = .int .i64 r0 ∧ Own H' Z' (L)) := by
 replace hO := hO.inZ
 unfold wp_copies at h
 refine hc_of_hw (N := 5) (rs := [(.tmp 2)]) Try.func96 rfl rfl rfl rfl (hw_seq (hw_region (hl_h (o_box (cs := (fGArc.enc x)) hO rfl rfl) rfl ?_)))
 rintro _ H_1 ⟨b_2, rfl, hO⟩
 refine hl_v (v_assign rfl) rfl (hl_nil (thenQ_n (hw_seq (hw_seq (hw_region (hl_v (v_fieldA Try.underlying50 rfl Try.sizeOf4 rfl) rfl (hl_v (v_load1 Try.isAgg4 rfl (Blk.cell (hO.box 0 rfl) rfl)) rfl (hl_nil (thenQ_n (hw_cond rfl (fun hc_3 => ?_) (fun hc_3 => ?_)))))))))))
 ·replace h := ite_t h hc_3
  refine hw_seq (hw_region (hl_v (v_assign rfl) rfl (hl_nil (thenQ_n (hw_ret (thenQ_r (ret_i _ (ra_t rfl ra_nil) ?_)))))))
  exact ⟨_, 1, (hO.inz 1 rfl), h, rfl, (Own.sel (Ls := [box b_2 (fGArc.enc x) 50, inZ Z]) (L := L) [] rfl hO)⟩
 ·replace h := ite_f h hc_3
  refine hw_skip (thenQ_n (hw_seq (hw_region (hl_v (v_assign rfl) rfl (hl_nil (thenQ_n (hw_ret (ret_i _ (ra_t rfl ra_nil) ?_))))))))
  exact ⟨_, 0, (hO.inz 1 rfl), h, rfl, (Own.sel (Ls := [box b_2 (fGArc.enc x) 50, inZ Z]) (L := L) [] rfl hO)⟩
theorem copies_spec {a0 : GArc}  {L : List As} {H : Heap} {Z : Nat → Prop} (hO : Own H Z (L))  : HC Try.prog 96 [.agg (fGArc.enc a0).toArray] H (fun v H' => ∃ (Z' : Nat → Prop) , (∀ b, Z b → Z' b) ∧ v = .int .i64 ((b2i a0.Copy)) ∧ Own H' Z' (L)) := by
  refine (copies_ok (x := a0) (@copies_wp a0) hO).mono ?_
  rintro v H' ⟨Z', r0, hz, hq, hv, hO'⟩
  obtain rfl := hq
  exact ⟨Z', hz, hv, hO'⟩

theorem cmpArcs_ok {a : GArc} {b : GArc}  {Q : Int → Prop} {H : Heap} {Z : Nat → Prop} {L : List As} (h : wp_cmpArcs a b Q) (hO : Own H Z (L))  : HC Try.prog 66 [.agg (fGArc.enc a).toArray, .agg (fGArc.enc b).toArray] H (fun v H' => ∃ (Z' : Nat → Prop) (r0 : Int) , (∀ b, Z b → Z' b) ∧ Q r0 ∧ v = .int .i64 r0 ∧ Own H' Z' (L)) := by
 replace hO := hO.inZ
 unfold wp_cmpArcs at h
 refine hc_of_hw (N := 35) (rs := [(.tmp 4)]) Try.func66 rfl rfl rfl rfl (hw_seq (hw_region (hl_h (o_box (cs := (fGArc.enc a)) hO rfl rfl) rfl ?_)))
 rintro _ H_1 ⟨b_2, rfl, hO⟩
 refine hl_h (o_box (cs := (fGArc.enc b)) hO rfl rfl) rfl ?_
 rintro _ H_3 ⟨b_4, rfl, hO⟩
 refine hl_v (v_assign rfl) rfl (hl_nil (thenQ_n (hw_seq (hw_region (hl_v (v_assign rfl) rfl (hl_nil (thenQ_n (hw_seq (hw_held2 29 (fun H' => ∃ Z' : Nat → Prop, Own H' Z' (box b_4 (fGArc.enc b) 50 :: box b_2 (fGArc.enc a) 50 :: inZ Z :: L)) (.step 0 false (.step 1 false (.step 2 false (.step 3 false (.step 5 false (.step 6 false (.step 7 false (.step 8 false (.step 10 false (.step 11 false (.step 12 false (.step 13 false (.step 15 false (.step 16 false (.step 17 false (.step 18 false (.step 20 false (.step 21 false (.step 23 false (.step 24 false (.step 4 true (.step 9 true (.step 14 true (.step 19 true (.step 22 true (.step 25 true (.step 26 true (.step 27 true (.step 28 true .done))))))))))))))))))))))))))))) (.step 29 true .done) Try.mixed (by kernel_rfl) ⟨_, hO⟩ (hd_v rfl (fun _ _ => (v_fieldA Try.underlying50 rfl Try.sizeOf3 rfl)) rfl (hd_v rfl (fun H' hS => by obtain ⟨Z', hO⟩ := hS; exact (v_load1 Try.isAgg3 rfl (Blk.cell (hO.box 1 rfl) rfl))) rfl (hd_v rfl (fun _ _ => (v_fieldA Try.underlying50 rfl Try.sizeOf3 rfl)) rfl (hd_v rfl (fun H' hS => by obtain ⟨Z', hO⟩ := hS; exact (v_load1 Try.isAgg3 rfl (Blk.cell (hO.box 0 rfl) rfl))) rfl (hd_v rfl (fun _ _ => (v_fieldA Try.underlying50 rfl Try.sizeOf3 rfl)) rfl (hd_v rfl (fun H' hS => by obtain ⟨Z', hO⟩ := hS; exact (v_load1 Try.isAgg3 rfl (Blk.cell (hO.box 1 rfl) rfl))) rfl (hd_v rfl (fun _ _ => (v_fieldA Try.underlying50 rfl Try.sizeOf3 rfl)) rfl (hd_v rfl (fun H' hS => by obtain ⟨Z', hO⟩ := hS; exact (v_load1 Try.isAgg3 rfl (Blk.cell (hO.box 0 rfl) rfl))) rfl (hd_v rfl (fun _ _ => (v_fieldA Try.underlying50 rfl Try.sizeOf34 rfl)) rfl ?_))))))))))))))))))
 refine hd_v rfl (fun _ _ => (v_sliceArr Try.underlying34 Try.sizeOf32 rfl)) rfl (hd_v rfl (fun _ _ => (v_fieldA Try.underlying50 rfl Try.sizeOf34 rfl)) rfl (hd_v rfl (fun _ _ => (v_sliceArr Try.underlying34 Try.sizeOf32 rfl)) rfl (hd_v rfl (fun _ _ => (v_fieldA Try.underlying50 rfl Try.sizeOf9 rfl)) rfl (hd_v rfl (fun H' hS => by obtain ⟨Z', hO⟩ := hS; exact (v_load1 Try.isAgg9 rfl (Blk.cell (hO.box 1 rfl) rfl))) rfl (hd_v rfl (fun _ _ => (v_fieldA Try.underlying50 rfl Try.sizeOf9 rfl)) rfl (hd_v rfl (fun H' hS => by obtain ⟨Z', hO⟩ := hS; exact (v_load1 Try.isAgg9 rfl (Blk.cell (hO.box 0 rfl) rfl))) rfl (hd_v rfl (fun _ _ => (v_move rfl)) rfl (hd_v rfl (fun H' hS => by obtain ⟨Z', hO⟩ := hS; exact (v_loadA Try.isAgg50 Try.sizeOf50 rfl (Blk.at0 (hO.box 1 rfl)) rfl)) rfl (hd_v rfl (fun _ _ => (v_move rfl)) rfl (hd_v rfl (fun H' hS => by obtain ⟨Z', hO⟩ := hS; exact (v_loadA Try.isAgg50 Try.sizeOf50 rfl (Blk.at0 (hO.box 0 rfl)) rfl)) rfl (hd_h (OpV.toH (v_call Try.call92 (evs_cons rfl (evs_cons rfl evs_nil)) (cmpInt_spec (a0 := a.From) (a1 := b.From) hO))) (fun _ _ hR => hR.2 ▸ ⟨_, hO⟩) rfl ?_)))))))))))
 rintro vv HH ⟨hvv, hHH⟩
 obtain rfl := hvv.symm
 obtain rfl := hHH.symm
 refine hd_h (OpV.toH (v_call Try.call92 (evs_cons rfl (evs_cons rfl evs_nil)) (cmpInt_spec (a0 := a.To) (a1 := b.To) hO))) (fun _ _ hR => hR.2 ▸ ⟨_, hO⟩) rfl ?_
 rintro vv HH ⟨hvv, hHH⟩
 obtain rfl := hvv.symm
 obtain rfl := hHH.symm
 refine hd_h (OpV.toH (v_call Try.call97 (evs_cons rfl (evs_cons rfl evs_nil)) (cmpWords_spec (a0 := [a.Set.a, a.Set.b, a.Set.c, a.Set.d]) (a1 := [b.Set.a, b.Set.b, b.Set.c, b.Set.d]) hO (Rd.words (i := 1) rfl rfl) (Rd.words (i := 0) rfl rfl)))) (fun _ _ hR => hR.2 ▸ ⟨_, hO⟩) rfl ?_
 rintro vv HH ⟨hvv, hHH⟩
 obtain rfl := hvv.symm
 obtain rfl := hHH.symm
 refine hd_h (h_call Try.call61 (evs_cons rfl (evs_cons rfl evs_nil)) (cmpStr_spec (a0 := a.Out) (a1 := b.Out) hO)) (by rintro _ H_5 ⟨Z_6, _, rfl, hO⟩; exact ⟨_, hO⟩) rfl ?_
 rintro _ H_5 ⟨Z_6, _, rfl, hO⟩
 refine hd_h (h_callv (fs := []) (cs := []) Try.call96 rfl (evs_cons rfl evs_nil) (copies_spec (a0 := a) hO)) (by rintro _ H_8 ⟨Z_9, _, rfl, hO⟩; exact ⟨_, hO⟩) rfl ?_
 rintro _ H_8 ⟨Z_9, _, rfl, hO⟩
 refine hd_h (h_callv (fs := []) (cs := []) Try.call96 rfl (evs_cons rfl evs_nil) (copies_spec (a0 := b) hO)) (by rintro _ H_11 ⟨Z_12, _, rfl, hO⟩; exact ⟨_, hO⟩) rfl ?_
 rintro _ H_11 ⟨Z_12, _, rfl, hO⟩
 refine hd_h (OpV.toH (v_call Try.call92 (evs_cons rfl (evs_cons rfl evs_nil)) (cmpInt_spec (a0 := (b2i a.Copy)) (a1 := (b2i b.Copy)) hO))) (fun _ _ hR => hR.2 ▸ ⟨_, hO⟩) rfl ?_
 rintro vv HH ⟨hvv, hHH⟩
 obtain rfl := hvv.symm
 obtain rfl := hHH.symm
 refine hd_h (o_lit (g := fInt) (l := [(cmpI a.From b.From), (cmpI a.To b.To), (cmpL cmpW [a.Set.a, a.Set.b, a.Set.c, a.Set.d] [b.Set.a, b.Set.b, b.Set.c, b.Set.d]), (cmpS a.Out b.Out), (cmpI (b2i a.Copy) (b2i b.Copy))]) (xs := [.tmp 10, .tmp 15, .tmp 20, .tmp 25, .tmp 32]) hO Try.underlying22 Try.sizeOf3 Try.zeroValue3 rfl (evs_cons rfl (evs_cons rfl (evs_cons rfl (evs_cons rfl (evs_cons rfl evs_nil))))) rfl rfl rfl rfl rfl) (by rintro v_15 H_14 hO; exact ⟨_, (Own.sel (Ls := [own fInt 3 v_15 [(cmpI a.From b.From), (cmpI a.To b.To), (cmpL cmpW [a.Set.a, a.Set.b, a.Set.c, a.Set.d] [b.Set.a, b.Set.b, b.Set.c, b.Set.d]), (cmpS a.Out b.Out), (cmpI (b2i a.Copy) (b2i b.Copy))], box b_4 (fGArc.enc b) 50, box b_2 (fGArc.enc a) 50, inZ Z]) (L := L) [1, 2, 3] rfl hO)⟩) rfl ?_
 rintro v_15 H_14 hO
 refine hd_h (OpV.toH (v_call Try.call91 (evs_cons rfl evs_nil) (cmpOr_spec (a0 := [(cmpI a.From b.From), (cmpI a.To b.To), (cmpL cmpW [a.Set.a, a.Set.b, a.Set.c, a.Set.d] [b.Set.a, b.Set.b, b.Set.c, b.Set.d]), (cmpS a.Out b.Out), (cmpI (b2i a.Copy) (b2i b.Copy))]) hO (Rd.of_own (i := 0) rfl)))) (fun _ _ hR => hR.2 ▸ ⟨_, (Own.sel (Ls := [own fInt 3 v_15 [(cmpI a.From b.From), (cmpI a.To b.To), (cmpL cmpW [a.Set.a, a.Set.b, a.Set.c, a.Set.d] [b.Set.a, b.Set.b, b.Set.c, b.Set.d]), (cmpS a.Out b.Out), (cmpI (b2i a.Copy) (b2i b.Copy))], box b_4 (fGArc.enc b) 50, box b_2 (fGArc.enc a) 50, inZ Z]) (L := L) [1, 2, 3] rfl hO)⟩) rfl ?_
 rintro vv HH ⟨hvv, hHH⟩
 obtain rfl := hvv.symm
 obtain rfl := hHH.symm
 refine hd_nil (hd_h (OpV.toH (v_assign rfl)) (fun _ _ hR => trivial) rfl ?_)
 rintro vv HH ⟨hvv, hHH⟩
 obtain rfl := hvv.symm
 obtain rfl := hHH.symm
 refine hd_nil (thenQ_n (hw_ret (ret_i _ (ra_t rfl ra_nil) ?_)))
 exact ⟨_, (orL [(cmpI a.From b.From), (cmpI a.To b.To), (cmpL cmpW [a.Set.a, a.Set.b, a.Set.c, a.Set.d] [b.Set.a, b.Set.b, b.Set.c, b.Set.d]), (cmpS a.Out b.Out), (cmpI (b2i a.Copy) (b2i b.Copy))]), (hO.inz 3 rfl), h, rfl, (Own.sel (Ls := [own fInt 3 v_15 [(cmpI a.From b.From), (cmpI a.To b.To), (cmpL cmpW [a.Set.a, a.Set.b, a.Set.c, a.Set.d] [b.Set.a, b.Set.b, b.Set.c, b.Set.d]), (cmpS a.Out b.Out), (cmpI (b2i a.Copy) (b2i b.Copy))], box b_4 (fGArc.enc b) 50, box b_2 (fGArc.enc a) 50, inZ Z]) (L := L) [] rfl hO)⟩
theorem cmpArcs_spec {a0 : GArc} {a1 : GArc}  {L : List As} {H : Heap} {Z : Nat → Prop} (hO : Own H Z (L))  : HC Try.prog 66 [.agg (fGArc.enc a0).toArray, .agg (fGArc.enc a1).toArray] H (fun v H' => ∃ (Z' : Nat → Prop) , (∀ a1, Z a1 → Z' a1) ∧ v = .int .i64 ((cmpArc a0 a1)) ∧ Own H' Z' (L)) := by
  refine (cmpArcs_ok (a := a0) (b := a1) (@cmpArcs_wp a0 a1) hO).mono ?_
  rintro v H' ⟨Z', r0, hz, hq, hv, hO'⟩
  obtain rfl := hq
  exact ⟨Z', hz, hv, hO'⟩

theorem cloneStr_ok {s : List (List UInt8)} {v_1 : Value} {Q : (List (List UInt8)) → Prop} {H : Heap} {Z : Nat → Prop} {L : List As} (h : wp_cloneStr s Q) (hO : Own H Z (L)) (hr_2 : Rd fStr.rep L v_1 s) : HC Try.prog 83 [v_1] H (fun v H' => ∃ (Z' : Nat → Prop) (r0 : List (List UInt8)) (v_3 : Value), (∀ b, Z b → Z' b) ∧ Q r0 ∧ v = v_3 ∧ Own H' Z' (own fStr 9 v_3 r0 :: L)) := by
 replace hO := hO.inZ
 unfold wp_cloneStr at h
 refine hc_of_hw (N := 8) (rs := [(.tmp 2)]) Try.func83 rfl rfl rfl rfl (hw_seq (hw_region (hl_v (v_assign rfl) rfl (hl_nil (thenQ_n (hw_seq (hw_seq (hw_region (hl_v (v_move rfl) rfl ?_)))))))))
 replace h := h (isNil v_1) (fun hn => Sl.isNil (Rd.sl hr_2 (Own.tails [_] hO)) hn)
 refine hl_v (v_eqlNil Try.underlying52 rfl (Rd.sl hr_2 (Own.tails [_] hO))) rfl (hl_nil (thenQ_n (hw_cond rfl (fun hc_4 => ?_) (fun hc_4 => ?_))))
 ·replace h := ite_t h hc_4
  refine hw_seq (hw_region (hl_v (v_assign rfl) rfl (hl_nil (thenQ_n (hw_ret (thenQ_r ?_))))))
  replace hO := hO.nil fStr 9
  refine ret_i _ (ra_t rfl ra_nil) ?_
  exact ⟨_, [], .slice none 0 0, (hO.inz 1 rfl), h, rfl, (Own.sel (Ls := [own fStr 9 (.slice none 0 0) [], inZ Z]) (L := L) [0] rfl hO)⟩
 ·replace h := ite_f h hc_4
  refine hw_skip (thenQ_n (hw_seq (hw_region (hl_h (o_lit0 (g := fStr) hO Try.underlying52 Try.sizeOf9) rfl ?_))))
  rintro v_6 H_5 hO
  refine hl_v (v_move rfl) rfl ?_
  obtain ⟨hs_9, h⟩ := h
  refine hl_h (o_append (l2 := s) hO 0 rfl rfl Try.underlying52 Try.type9 rfl rfl rfl rfl rfl rfl rfl (Rd.sl hr_2 (Own.tails [_, _] hO)) hs_9 (le63 hs_9 rfl)) rfl ?_
  rintro v_8 H_7 hO
  refine hl_v (v_assign rfl) rfl (hl_nil (thenQ_n (hw_ret (ret_i _ (ra_t rfl ra_nil) ?_))))
  exact ⟨_, ([] ++ s), v_8, (hO.inz 1 rfl), h, rfl, (Own.sel (Ls := [own fStr 9 v_8 ([] ++ s), inZ Z]) (L := L) [0] rfl hO)⟩
theorem cloneStr_spec {a0 : List (List UInt8)} {v_1 : Value} {L : List As} (hp : a0.length ≤ 1000000000000) {H : Heap} {Z : Nat → Prop} (hO : Own H Z (L)) (hr_2 : Rd fStr.rep L v_1 a0) : HC Try.prog 83 [v_1] H (fun v H' => ∃ (Z' : Nat → Prop) (v_3 : Value), (∀ b, Z b → Z' b) ∧ v = v_3 ∧ Own H' Z' (own fStr 9 v_3 (a0) :: L)) := by
  refine (cloneStr_ok (s := a0) (@cloneStr_wp a0 hp) hO hr_2).mono ?_
  rintro v H' ⟨Z', r0, v_3, hz, hq, hv, hO'⟩
  obtain rfl := hq
  exact ⟨Z', v_3, hz, hv, hO'⟩

theorem sortStr_spec {a0 : List (List UInt8)} {f : (List UInt8) → (List UInt8) → Int} {g_0 : FuncId} {cs_0 : List Value} {v_1 : Value} {L : List As} (hp : TotC f ∧ a0.length < 4611686018427387904) {H : Heap} {Z : Nat → Prop} (hO : Own H Z (own fStr 9 v_1 a0 :: L))
  (hg_0 : ∀ args w, (callFunc g_0 args).run Try.prog w = .ok (.enter g_0 args) w)
  (hp_0 : ∀ (Ls : List As) (q0 q1 : (List UInt8)) {H : Heap} {Z : Nat → Prop}, Own H Z Ls → HC Try.prog g_0 ([] ++ [str q0, str q1] ++ cs_0) H (fun v H' => ∃ Z' : Nat → Prop, (∀ b, Z b → Z' b) ∧ v = .int .i64 (f q0 q1) ∧ Own H' Z' Ls)) :
  HC Try.prog 84 [v_1, .func (.func g_0) #[] cs_0.toArray] H (fun r H' => ∃ Z' : Nat → Prop, (∀ b, Z b → Z' b) ∧ r = .tuple #[] ∧ Own H' Z' (own fStr 9 v_1 (srtL f a0) :: L)) :=
  hc_sort1 (P := Try.prog) (ρ := sortStrL_ren) (g := fStr) (enc := str) (fun _ => rfl) sortStrL hp hO hg_0 hp_0
theorem compactStr_ok {s : List (List UInt8)} {v_1 : Value} {Q : (List (List UInt8)) → Prop} {H : Heap} {Z : Nat → Prop} {L : List As} (h : wp_compactStr s Q) (hO : Own H Z (own fStr 9 v_1 s :: L))  : HC Try.prog 85 [v_1] H (fun v H' => ∃ (Z' : Nat → Prop) (r0 : List (List UInt8)) (v_2 : Value), (∀ b, Z b → Z' b) ∧ Q r0 ∧ v = v_2 ∧ Own H' Z' (own fStr 9 v_2 r0 :: L)) := by
 replace hO := hO.inZ
 unfold wp_compactStr at h
 refine hc_of_hw (N := 61) (rs := [(.tmp 2)]) Try.func85 rfl rfl rfl rfl (hw_seq (hw_region (hl_v (v_assign rfl) rfl (hl_nil (thenQ_n (hw_seq (hw_seq (hw_region (hl_v (v_move rfl) rfl ?_)))))))))
 have hln_3 := Sl.cap (hO.osl 1 rfl)
 refine hl_v (v_lenL rfl Try.underlying52 rfl (hO.osl 1 rfl)) rfl (hl_v (v_lss rfl rfl) rfl (hl_nil (thenQ_n (hw_cond rfl (fun hc_4 => ?_) (fun hc_4 => ?_)))))
 ·replace h := ite_t h hc_4
  refine hw_seq (hw_region (hl_v (v_move rfl) rfl (hl_v (v_assign rfl) rfl (hl_nil (thenQ_n (hw_ret (thenQ_r (ret_i _ (ra_t rfl ra_nil) ?_))))))))
  exact ⟨_, s, v_1, (hO.inz 0 rfl), h, rfl, (Own.sel (Ls := [inZ Z, own fStr 9 v_1 s]) (L := L) [1] rfl hO)⟩
 ·replace h := ite_f h hc_4
  refine hw_skip (thenQ_n (hw_seq (hw_seq (hw_region (hl_v (v_assign rfl) rfl (hl_nil (thenQ_n (hw_block ?_))))))))
  obtain ⟨I_5, h, hI_7⟩ := h
  refine hw_lp (fun n' g' H' => ∃ (k : Nat) (Z' : Nat → Prop), n' = s.length - k ∧ g' = [(0, v_1), (3, .int .i64 (k : Int))] ∧ I_5 k ∧ Own H' Z' (inZ Z :: own fStr 9 v_1 s :: L)) _ _ (a_c 0 rfl (a_c 3 rfl a_n)) ⟨1, _, rfl, rfl, h, hO⟩ ?_
  rintro _ _ H_8 ⟨k, Z_9, rfl, rfl, h, hO⟩
  replace h := hI_7 k h
  refine hw_seq (hw_seq (hw_region (hl_v (v_move rfl) rfl (hl_v (v_move rfl) rfl (hl_v (v_lenL rfl Try.underlying52 rfl (hO.osl 1 rfl)) rfl (hl_v (v_lss rfl rfl) rfl (hl_nil (thenQ_n (hw_cond rfl (fun hc_11 => ?_) (fun hc_11 => ?_))))))))))
  ·replace h := ite_t h hc_11
   refine hw_skip (thenQ_n (hw_seq (hw_block (hw_seq (hw_quiet Try.mixed (by kernel_rfl) (hq_v (v_move rfl) rfl (hq_v (v_move rfl) rfl (hq_v (v_ixL Try.underlying52 Try.sizeOf9 rfl rfl (hO.osl 1 rfl) (by exact ⟨Int.natCast_nonneg _, of_decide_eq_true hc_11⟩)) rfl (hq_v (v_loadSc Try.isAgg9 rfl (hO.osl 1 rfl) rfl (by exact ⟨Int.natCast_nonneg _, of_decide_eq_true hc_11⟩) rfl) rfl (hq_v (v_move rfl) rfl (hq_v (v_move rfl) rfl ?_)))))))))))
   obtain ⟨hs_12, h⟩ := h
   refine hq_v (v_sub rfl rfl hs_12) rfl ?_
   obtain ⟨hs_13, h⟩ := h
   refine hq_v (v_ixL Try.underlying52 Try.sizeOf9 rfl rfl (hO.osl 1 rfl) hs_13) rfl (hq_v (v_loadSc Try.isAgg9 rfl (hO.osl 1 rfl) rfl hs_13 rfl) rfl (hq_v (v_eqlS rfl rfl) rfl (hq_nil (thenQ_n (hw_sub _ (a_c 0 rfl (a_c 3 rfl (a_c 25 rfl a_n))) (hw_cond rfl (fun hc_14 => ?_) (fun hc_14 => ?_)))))))
   ·replace h := ite_t h hc_14
    refine hw_seq (hw_region (hl_v (v_move rfl) rfl (hl_v (v_move rfl) rfl ?_)))
    obtain ⟨hs_15, h⟩ := h
    refine hl_v (v_sliceLl Try.underlying52 Try.sizeOf9 rfl rfl (hO.osl 1 rfl) hs_15) rfl (hl_v (v_assign rfl) rfl (hl_nil (thenQ_n (hw_seq (hw_seq (hw_region (hl_v (v_assign rfl) rfl (hl_nil (thenQ_n (hw_block ?_))))))))))
    obtain ⟨I_16, μ_17, h, hI_18⟩ := h
    refine hw_lp (fun n' g' H' => ∃ (s2 : List (List UInt8)) (k2 : Int) (k22 : Int) (Z' : Nat → Prop), n' = μ_17 s2 k2 k22 ∧ g' = [(0, v_1), (3, .int .i64 k2), (4, (slv v_1 1 k (s.length - k))), (5, .int .i64 k22)] ∧ I_16 s2 k2 k22 ∧ Own H' Z' (inZ Z :: own fStr 9 v_1 s2 :: L)) _ _ (a_c 0 rfl (a_c 3 rfl (a_c 4 rfl (a_c 5 rfl a_n)))) ⟨s, (k : Int), 1, _, rfl, rfl, h, hO⟩ ?_
    rintro _ _ H_19 ⟨s2, k2, k22, Z_20, rfl, rfl, h, hO⟩
    replace h := hI_18 s2 k2 k22 h
    refine hw_seq (hw_seq (hw_region (hl_v (v_move rfl) rfl (hl_v (v_move rfl) rfl ?_))))
    obtain ⟨hs_22, h⟩ := h
    obtain ⟨hs_23, h⟩ := h
    have hln_24 := Sl.cap (slvl_len (hO.osl 1 rfl) hs_22 hs_23 rfl)
    refine hl_v (v_lenL rfl Try.underlying52 rfl (slvl_len (hO.osl 1 rfl) hs_22 hs_23 rfl)) rfl (hl_v (v_lss rfl rfl) rfl (hl_nil (thenQ_n (hw_cond rfl (fun hc_25 => ?_) (fun hc_25 => ?_)))))
    ·replace h := ite_t h hc_25
     refine hw_skip (thenQ_n (hw_seq (hw_block (hw_seq (hw_quiet Try.mixed (by kernel_rfl) (hq_v (v_move rfl) rfl (hq_v (v_move rfl) rfl ?_)))))))
     obtain ⟨hs_26, h⟩ := h
     refine hq_v (v_ixL Try.underlying52 Try.sizeOf9 rfl rfl (slvl_len (hO.osl 1 rfl) hs_22 hs_23 rfl) hs_26) rfl (hq_v (v_loadSc Try.isAgg9 rfl (slvl_len (hO.osl 1 rfl) hs_22 hs_23 rfl) rfl hs_26 rfl) rfl (hq_v (v_move rfl) rfl (hq_v (v_move rfl) rfl ?_)))
     obtain ⟨hs_27, h⟩ := h
     refine hq_v (v_sub rfl rfl hs_27) rfl ?_
     obtain ⟨hs_28, h⟩ := h
     refine hq_v (v_ixL Try.underlying52 Try.sizeOf9 rfl rfl (slvl_len (hO.osl 1 rfl) hs_22 hs_23 rfl) hs_28) rfl (hq_v (v_loadSc Try.isAgg9 rfl (slvl_len (hO.osl 1 rfl) hs_22 hs_23 rfl) rfl hs_28 rfl) rfl (hq_v (v_neqS rfl rfl) rfl (hq_nil (thenQ_n (hw_sub _ (a_c 0 rfl (a_c 3 rfl (a_c 4 rfl (a_c 5 rfl (a_c 44 rfl a_n))))) (hw_cond rfl (fun hc_29 => ?_) (fun hc_29 => ?_)))))))
     ·replace h := ite_t h hc_29
      refine hw_seq (hw_region (hl_v (v_move rfl) rfl (hl_v (v_move rfl) rfl (hl_v (v_move rfl) rfl (hl_v (v_move rfl) rfl (hl_v (v_ixL Try.underlying52 Try.sizeOf9 rfl rfl (slvl_len (hO.osl 1 rfl) hs_22 hs_23 rfl) hs_26) rfl (hl_v (v_loadSc Try.isAgg9 rfl (slvl_len (hO.osl 1 rfl) hs_22 hs_23 rfl) rfl hs_26 rfl) rfl ?_)))))))
      obtain ⟨hs_30, h⟩ := h
      refine hl_v (v_ixL Try.underlying52 Try.sizeOf9 rfl rfl (hO.osl 1 rfl) hs_30) rfl (hl_s (o_set1 (x' := ((s2.drop k).getD k22.toNat default)) hO 1 rfl Try.sizeOf9 rfl rfl rfl rfl hs_30 rfl rfl) ?_)
      rintro _ H_31 hO
      refine hl_nil (thenQ_n (hw_region (hl_v (v_move rfl) rfl ?_)))
      obtain ⟨hs_32, h⟩ := h
      refine hl_v (v_add rfl rfl hs_32) rfl (hl_v (v_assign rfl) rfl (hl_nil (blockQ_n (thenQ_n (hw_region (hl_v (v_move rfl) rfl ?_))))))
      obtain ⟨hs_33, h⟩ := h
      refine hl_v (v_add rfl rfl hs_33) rfl (hl_v (v_assign rfl) rfl (hl_nil (thenQ_n ?_)))
      exact ⟨_, _, (a_c 0 rfl (a_c 3 rfl (a_c 4 rfl (a_c 5 rfl a_n)))), ⟨(s2.set k2.toNat ((s2.drop k).getD k22.toNat default)), (k2 + 1), (k22 + 1), _, rfl, rfl, h.1, hO⟩, h.2⟩
     ·replace h := ite_f h hc_29
      refine hw_skip (blockQ_n (thenQ_n (hw_region (hl_v (v_move rfl) rfl ?_))))
      obtain ⟨hs_34, h⟩ := h
      refine hl_v (v_add rfl rfl hs_34) rfl (hl_v (v_assign rfl) rfl (hl_nil (thenQ_n ?_)))
      exact ⟨_, _, (a_c 0 rfl (a_c 3 rfl (a_c 4 rfl (a_c 5 rfl a_n)))), ⟨s2, k2, (k22 + 1), _, rfl, rfl, h.1, hO⟩, h.2⟩
    ·replace h := ite_f h hc_25
     refine hw_exit (thenQ_e (thenQ_e (blockQ_hit (thenQ_n (hw_seq (hw_region (hl_v (v_move rfl) rfl (hl_v (v_move rfl) rfl ?_))))))))
     obtain ⟨hs_35, h⟩ := h
     refine hl_v (v_sliceLl Try.underlying52 Try.sizeOf9 rfl rfl (hO.osl 1 rfl) hs_35) rfl (hl_s (o_clear (g := fStr) (d := ([] : List UInt8)) hO 1 rfl rfl Try.underlying52 Try.zeroValue9 rfl rfl rfl hs_35 rfl) ?_)
     rintro _ H_36 ⟨rfl, hO⟩
     refine hl_nil (thenQ_n (hw_seq (hw_region (hl_v (v_move rfl) rfl (hl_v (v_move rfl) rfl ?_)))))
     obtain ⟨hs_37, h⟩ := h
     refine hl_v (v_sliceLh Try.underlying52 Try.sizeOf9 rfl rfl (hO.osl 1 rfl) hs_37) rfl ?_
     replace hO : Own H_36 Z_20 (inZ Z :: own fStr 9 (slv v_1 1 0 k2.toNat) ((s2.take k2.toNat ++ List.replicate (s2.length - k2.toNat) ([] : List UInt8)).take k2.toNat) :: L) := hO.trunc (i := 1) rfl (by have hq := hs_37; omega)
     refine hl_v (v_assign rfl) rfl (hl_nil (thenQ_n (hw_sub _ (a_c 2 rfl a_n) (hw_ret (blockQ_r (thenQ_r (thenQ_r (blockQ_r (thenQ_r (ret_i _ (ra_t rfl ra_nil) ?_))))))))))
     exact ⟨_, ((s2.take k2.toNat ++ List.replicate (s2.length - k2.toNat) ([] : List UInt8)).take k2.toNat), (slv v_1 1 0 k2.toNat), (hO.inz 0 rfl), h, rfl, (Own.sel (Ls := [inZ Z, own fStr 9 (slv v_1 1 0 k2.toNat) ((s2.take k2.toNat ++ List.replicate (s2.length - k2.toNat) ([] : List UInt8)).take k2.toNat)]) (L := L) [1] rfl hO)⟩
   ·replace h := ite_f h hc_14
    refine hw_skip (blockQ_n (thenQ_n (hw_region (hl_v (v_move rfl) rfl (hl_v (v_add rfl rfl (by have hq := of_decide_eq_true hc_11; have hm := hln_3; constructor <;> omega)) rfl (hl_v (v_assign rfl) rfl (hl_nil (thenQ_n ?_))))))))
    exact ⟨_, _, (a_c 0 rfl (a_c 3 rfl a_n)), ⟨k + 1, _, rfl, rfl, h, hO⟩, (by have hq := of_decide_eq_true hc_11; omega)⟩
  ·replace h := ite_f h hc_11
   refine hw_exit (thenQ_e (thenQ_e (blockQ_hit (thenQ_n (hw_seq (hw_region (hl_v (v_move rfl) rfl (hl_v (v_assign rfl) rfl (hl_nil (thenQ_n (hw_ret (ret_i _ (ra_t rfl ra_nil) ?_))))))))))))
   exact ⟨_, s, v_1, (hO.inz 0 rfl), h, rfl, (Own.sel (Ls := [inZ Z, own fStr 9 v_1 s]) (L := L) [1] rfl hO)⟩
theorem compactStr_spec {a0 : List (List UInt8)} {v_1 : Value} {L : List As} (hp : a0.length ≤ 1000000000000) {H : Heap} {Z : Nat → Prop} (hO : Own H Z (own fStr 9 v_1 a0 :: L))  : HC Try.prog 85 [v_1] H (fun v H' => ∃ (Z' : Nat → Prop) (v_2 : Value), (∀ b, Z b → Z' b) ∧ v = v_2 ∧ Own H' Z' (own fStr 9 v_2 ((cpL a0)) :: L)) := by
  refine (compactStr_ok (s := a0) (@compactStr_wp a0 hp) hO).mono ?_
  rintro v H' ⟨Z', r0, v_2, hz, hq, hv, hO'⟩
  obtain rfl := hq
  exact ⟨Z', v_2, hz, hv, hO'⟩

theorem orderedStr_ok {l : List (List UInt8)} {less : ((List UInt8) → (List UInt8) → Int)} {g_3 : FuncId} {cs_4 : List Value} {v_1 : Value} {Q : (List (List UInt8)) → Prop} {H : Heap} {Z : Nat → Prop} {L : List As} (h : wp_orderedStr l less Q) (hO : Own H Z (L)) (hr_2 : Rd fStr.rep L v_1 l) (hg_5 : ∀ args w, (callFunc g_3 args).run Try.prog w = .ok (.enter g_3 args) w) (hp_6 : ∀ (Ls : List As) (q0 : List UInt8) (q1 : List UInt8)  {H : Heap} {Z : Nat → Prop}, Own H Z Ls → HC Try.prog g_3 ([] ++ [str q0, str q1] ++ cs_4) H (fun v H' => ∃ Z' : Nat → Prop, (∀ b, Z b → Z' b) ∧ v = .int .i64 (less q0 q1) ∧ Own H' Z' Ls)) : HC Try.prog 60 [v_1, .func (.func g_3) #[] cs_4.toArray] H (fun v H' => ∃ (Z' : Nat → Prop) (r0 : List (List UInt8)) (v_7 : Value), (∀ b, Z b → Z' b) ∧ Q r0 ∧ v = v_7 ∧ Own H' Z' (own fStr 9 v_7 r0 :: L)) := by
 replace hO := hO.inZ
 unfold wp_orderedStr at h
 refine hc_of_hw (N := 13) (rs := [(.tmp 4)]) Try.func60 rfl rfl rfl rfl (hw_seq (hw_region (hl_v (v_assign rfl) rfl (hl_nil (thenQ_n (hw_seq (hw_region (hl_v (v_move rfl) rfl ?_))))))))
 obtain ⟨hs_8, h⟩ := h
 refine hl_h (h_call Try.call83 (evs_cons rfl evs_nil) (cloneStr_spec (a0 := l) hs_8 hO (Rd.tails [_] hr_2))) rfl ?_
 rintro v_9 H_10 ⟨Z_11, _, _, rfl, hO⟩
 refine hl_v (v_assign rfl) rfl (hl_nil (thenQ_n (hw_seq (hw_region (hl_v (v_move rfl) rfl (hl_v (v_move rfl) rfl ?_))))))
 obtain ⟨hs_13, h⟩ := h
 refine hl_h (h_call Try.call84 (evs_cons rfl (evs_cons rfl evs_nil)) (sortStr_spec (a0 := l) (L := inZ Z :: L) hs_13 (Own.sel (Ls := [own fStr 9 v_9 l, inZ Z]) (L := L) [0, 1] rfl hO) hg_5 hp_6)) rfl ?_
 rintro _ H_14 ⟨Z_15, _, rfl, hO⟩
 refine hl_nil (thenQ_n (hw_seq (hw_region (hl_v (v_move rfl) rfl ?_))))
 obtain ⟨hs_17, h⟩ := h
 refine hl_h (h_call Try.call85 (evs_cons rfl evs_nil) (compactStr_spec (a0 := (srtL less l)) (L := inZ Z :: L) hs_17 (Own.sel (Ls := [own fStr 9 v_9 (srtL less l), inZ Z]) (L := L) [0, 1] rfl hO))) rfl ?_
 rintro v_18 H_19 ⟨Z_20, _, _, rfl, hO⟩
 refine hl_v (v_assign rfl) rfl (hl_nil (thenQ_n (hw_ret (ret_i _ (ra_t rfl ra_nil) ?_))))
 exact ⟨_, (cpL (srtL less l)), v_18, (hO.inz 1 rfl), h, rfl, (Own.sel (Ls := [own fStr 9 v_18 (cpL (srtL less l)), inZ Z]) (L := L) [0] rfl hO)⟩
theorem orderedStr_spec {a0 : List (List UInt8)} {a1 : ((List UInt8) → (List UInt8) → Int)} {g_3 : FuncId} {cs_4 : List Value} {v_1 : Value} {L : List As} (hp : a0.length ≤ 1000000000000 ∧ TotC a1) {H : Heap} {Z : Nat → Prop} (hO : Own H Z (L)) (hr_2 : Rd fStr.rep L v_1 a0) (hg_5 : ∀ args w, (callFunc g_3 args).run Try.prog w = .ok (.enter g_3 args) w) (hp_6 : ∀ (Ls : List As) (q0 : List UInt8) (q1 : List UInt8)  {H : Heap} {Z : Nat → Prop}, Own H Z Ls → HC Try.prog g_3 ([] ++ [str q0, str q1] ++ cs_4) H (fun v H' => ∃ Z' : Nat → Prop, (∀ b, Z b → Z' b) ∧ v = .int .i64 (a1 q0 q1) ∧ Own H' Z' Ls)) : HC Try.prog 60 [v_1, .func (.func g_3) #[] cs_4.toArray] H (fun v H' => ∃ (Z' : Nat → Prop) (v_7 : Value), (∀ b, Z b → Z' b) ∧ v = v_7 ∧ Own H' Z' (own fStr 9 v_7 ((ordL a1 a0)) :: L)) := by
  refine (orderedStr_ok (l := a0) (less := a1) (@orderedStr_wp a0 a1 hp) hO hr_2 hg_5 hp_6).mono ?_
  rintro v H' ⟨Z', r0, v_7, hz, hq, hv, hO'⟩
  obtain rfl := hq
  exact ⟨Z', v_7, hz, hv, hO'⟩

theorem sortInt15_spec {a0 : List Int} {f : Int → Int → Int} {g_0 : FuncId} {cs_0 : List Value} {v_1 : Value} {L : List As} (hp : TotC f ∧ a0.length < 4611686018427387904) {H : Heap} {Z : Nat → Prop} (hO : Own H Z (own fInt 3 v_1 a0 :: L))
  (hg_0 : ∀ args w, (callFunc g_0 args).run Try.prog w = .ok (.enter g_0 args) w)
  (hp_0 : ∀ (Ls : List As) (q0 q1 : Int) {H : Heap} {Z : Nat → Prop}, Own H Z Ls → HC Try.prog g_0 ([] ++ [.int .i64 q0, .int .i64 q1] ++ cs_0) H (fun v H' => ∃ Z' : Nat → Prop, (∀ b, Z b → Z' b) ∧ v = .int .i64 (f q0 q1) ∧ Own H' Z' Ls)) :
  HC Try.prog 112 [v_1, .func (.func g_0) #[] cs_0.toArray] H (fun r H' => ∃ Z' : Nat → Prop, (∀ b, Z b → Z' b) ∧ r = .tuple #[] ∧ Own H' Z' (own fInt 3 v_1 (srtL f a0) :: L)) :=
  hc_sort1 (P := Try.prog) (ρ := sortIntL_ren) (g := fInt) (enc := (fun x : Int => Value.int .i64 x)) (fun _ => rfl) sortIntL hp hO hg_0 hp_0
theorem compactInt15_ok {s : List Int} {v_1 : Value} {Q : (List Int) → Prop} {H : Heap} {Z : Nat → Prop} {L : List As} (h : wp_compactInt15 s Q) (hO : Own H Z (own fInt 3 v_1 s :: L))  : HC Try.prog 113 [v_1] H (fun v H' => ∃ (Z' : Nat → Prop) (r0 : List Int) (v_2 : Value), (∀ b, Z b → Z' b) ∧ Q r0 ∧ v = v_2 ∧ Own H' Z' (own fInt 3 v_2 r0 :: L)) := by
 replace hO := hO.inZ
 unfold wp_compactInt15 at h
 refine hc_of_hw (N := 61) (rs := [(.tmp 2)]) Try.func113 rfl rfl rfl rfl (hw_seq (hw_region (hl_v (v_assign rfl) rfl (hl_nil (thenQ_n (hw_seq (hw_seq (hw_region (hl_v (v_move rfl) rfl ?_)))))))))
 have hln_3 := Sl.cap (hO.osl 1 rfl)
 refine hl_v (v_lenL rfl Try.underlying22 rfl (hO.osl 1 rfl)) rfl (hl_v (v_lss rfl rfl) rfl (hl_nil (thenQ_n (hw_cond rfl (fun hc_4 => ?_) (fun hc_4 => ?_)))))
 ·replace h := ite_t h hc_4
  refine hw_seq (hw_region (hl_v (v_move rfl) rfl (hl_v (v_assign rfl) rfl (hl_nil (thenQ_n (hw_ret (thenQ_r (ret_i _ (ra_t rfl ra_nil) ?_))))))))
  exact ⟨_, s, v_1, (hO.inz 0 rfl), h, rfl, (Own.sel (Ls := [inZ Z, own fInt 3 v_1 s]) (L := L) [1] rfl hO)⟩
 ·replace h := ite_f h hc_4
  refine hw_skip (thenQ_n (hw_seq (hw_seq (hw_region (hl_v (v_assign rfl) rfl (hl_nil (thenQ_n (hw_block ?_))))))))
  obtain ⟨I_5, h, hI_7⟩ := h
  refine hw_lp (fun n' g' H' => ∃ (k : Nat) (Z' : Nat → Prop), n' = s.length - k ∧ g' = [(0, v_1), (3, .int .i64 (k : Int))] ∧ I_5 k ∧ Own H' Z' (inZ Z :: own fInt 3 v_1 s :: L)) _ _ (a_c 0 rfl (a_c 3 rfl a_n)) ⟨1, _, rfl, rfl, h, hO⟩ ?_
  rintro _ _ H_8 ⟨k, Z_9, rfl, rfl, h, hO⟩
  replace h := hI_7 k h
  refine hw_seq (hw_seq (hw_region (hl_v (v_move rfl) rfl (hl_v (v_move rfl) rfl (hl_v (v_lenL rfl Try.underlying22 rfl (hO.osl 1 rfl)) rfl (hl_v (v_lss rfl rfl) rfl (hl_nil (thenQ_n (hw_cond rfl (fun hc_11 => ?_) (fun hc_11 => ?_))))))))))
  ·replace h := ite_t h hc_11
   refine hw_skip (thenQ_n (hw_seq (hw_block (hw_seq (hw_quiet Try.mixed (by kernel_rfl) (hq_v (v_move rfl) rfl (hq_v (v_move rfl) rfl (hq_v (v_ixL Try.underlying22 Try.sizeOf3 rfl rfl (hO.osl 1 rfl) (by exact ⟨Int.natCast_nonneg _, of_decide_eq_true hc_11⟩)) rfl (hq_v (v_loadSc Try.isAgg3 rfl (hO.osl 1 rfl) rfl (by exact ⟨Int.natCast_nonneg _, of_decide_eq_true hc_11⟩) rfl) rfl (hq_v (v_move rfl) rfl (hq_v (v_move rfl) rfl ?_)))))))))))
   obtain ⟨hs_12, h⟩ := h
   refine hq_v (v_sub rfl rfl hs_12) rfl ?_
   obtain ⟨hs_13, h⟩ := h
   refine hq_v (v_ixL Try.underlying22 Try.sizeOf3 rfl rfl (hO.osl 1 rfl) hs_13) rfl (hq_v (v_loadSc Try.isAgg3 rfl (hO.osl 1 rfl) rfl hs_13 rfl) rfl (hq_v (v_eql rfl rfl) rfl (hq_nil (thenQ_n (hw_sub _ (a_c 0 rfl (a_c 3 rfl (a_c 25 rfl a_n))) (hw_cond rfl (fun hc_14 => ?_) (fun hc_14 => ?_)))))))
   ·replace h := ite_t h hc_14
    refine hw_seq (hw_region (hl_v (v_move rfl) rfl (hl_v (v_move rfl) rfl ?_)))
    obtain ⟨hs_15, h⟩ := h
    refine hl_v (v_sliceLl Try.underlying22 Try.sizeOf3 rfl rfl (hO.osl 1 rfl) hs_15) rfl (hl_v (v_assign rfl) rfl (hl_nil (thenQ_n (hw_seq (hw_seq (hw_region (hl_v (v_assign rfl) rfl (hl_nil (thenQ_n (hw_block ?_))))))))))
    obtain ⟨I_16, μ_17, h, hI_18⟩ := h
    refine hw_lp (fun n' g' H' => ∃ (s2 : List Int) (k2 : Int) (k22 : Int) (Z' : Nat → Prop), n' = μ_17 s2 k2 k22 ∧ g' = [(0, v_1), (3, .int .i64 k2), (4, (slv v_1 1 k (s.length - k))), (5, .int .i64 k22)] ∧ I_16 s2 k2 k22 ∧ Own H' Z' (inZ Z :: own fInt 3 v_1 s2 :: L)) _ _ (a_c 0 rfl (a_c 3 rfl (a_c 4 rfl (a_c 5 rfl a_n)))) ⟨s, (k : Int), 1, _, rfl, rfl, h, hO⟩ ?_
    rintro _ _ H_19 ⟨s2, k2, k22, Z_20, rfl, rfl, h, hO⟩
    replace h := hI_18 s2 k2 k22 h
    refine hw_seq (hw_seq (hw_region (hl_v (v_move rfl) rfl (hl_v (v_move rfl) rfl ?_))))
    obtain ⟨hs_22, h⟩ := h
    obtain ⟨hs_23, h⟩ := h
    have hln_24 := Sl.cap (slvl_len (hO.osl 1 rfl) hs_22 hs_23 rfl)
    refine hl_v (v_lenL rfl Try.underlying22 rfl (slvl_len (hO.osl 1 rfl) hs_22 hs_23 rfl)) rfl (hl_v (v_lss rfl rfl) rfl (hl_nil (thenQ_n (hw_cond rfl (fun hc_25 => ?_) (fun hc_25 => ?_)))))
    ·replace h := ite_t h hc_25
     refine hw_skip (thenQ_n (hw_seq (hw_block (hw_seq (hw_quiet Try.mixed (by kernel_rfl) (hq_v (v_move rfl) rfl (hq_v (v_move rfl) rfl ?_)))))))
     obtain ⟨hs_26, h⟩ := h
     refine hq_v (v_ixL Try.underlying22 Try.sizeOf3 rfl rfl (slvl_len (hO.osl 1 rfl) hs_22 hs_23 rfl) hs_26) rfl (hq_v (v_loadSc Try.isAgg3 rfl (slvl_len (hO.osl 1 rfl) hs_22 hs_23 rfl) rfl hs_26 rfl) rfl (hq_v (v_move rfl) rfl (hq_v (v_move rfl) rfl ?_)))
     obtain ⟨hs_27, h⟩ := h
     refine hq_v (v_sub rfl rfl hs_27) rfl ?_
     obtain ⟨hs_28, h⟩ := h
     refine hq_v (v_ixL Try.underlying22 Try.sizeOf3 rfl rfl (slvl_len (hO.osl 1 rfl) hs_22 hs_23 rfl) hs_28) rfl (hq_v (v_loadSc Try.isAgg3 rfl (slvl_len (hO.osl 1 rfl) hs_22 hs_23 rfl) rfl hs_28 rfl) rfl (hq_v (v_neq rfl rfl) rfl (hq_nil (thenQ_n (hw_sub _ (a_c 0 rfl (a_c 3 rfl (a_c 4 rfl (a_c 5 rfl (a_c 44 rfl a_n))))) (hw_cond rfl (fun hc_29 => ?_) (fun hc_29 => ?_)))))))
     ·replace h := ite_t h hc_29
      refine hw_seq (hw_region (hl_v (v_move rfl) rfl (hl_v (v_move rfl) rfl (hl_v (v_move rfl) rfl (hl_v (v_move rfl) rfl (hl_v (v_ixL Try.underlying22 Try.sizeOf3 rfl rfl (slvl_len (hO.osl 1 rfl) hs_22 hs_23 rfl) hs_26) rfl (hl_v (v_loadSc Try.isAgg3 rfl (slvl_len (hO.osl 1 rfl) hs_22 hs_23 rfl) rfl hs_26 rfl) rfl ?_)))))))
      obtain ⟨hs_30, h⟩ := h
      refine hl_v (v_ixL Try.underlying22 Try.sizeOf3 rfl rfl (hO.osl 1 rfl) hs_30) rfl (hl_s (o_set1 (x' := ((s2.drop k).getD k22.toNat default)) hO 1 rfl Try.sizeOf3 rfl rfl rfl rfl hs_30 rfl rfl) ?_)
      rintro _ H_31 hO
      refine hl_nil (thenQ_n (hw_region (hl_v (v_move rfl) rfl ?_)))
      obtain ⟨hs_32, h⟩ := h
      refine hl_v (v_add rfl rfl hs_32) rfl (hl_v (v_assign rfl) rfl (hl_nil (blockQ_n (thenQ_n (hw_region (hl_v (v_move rfl) rfl ?_))))))
      obtain ⟨hs_33, h⟩ := h
      refine hl_v (v_add rfl rfl hs_33) rfl (hl_v (v_assign rfl) rfl (hl_nil (thenQ_n ?_)))
      exact ⟨_, _, (a_c 0 rfl (a_c 3 rfl (a_c 4 rfl (a_c 5 rfl a_n)))), ⟨(s2.set k2.toNat ((s2.drop k).getD k22.toNat default)), (k2 + 1), (k22 + 1), _, rfl, rfl, h.1, hO⟩, h.2⟩
     ·replace h := ite_f h hc_29
      refine hw_skip (blockQ_n (thenQ_n (hw_region (hl_v (v_move rfl) rfl ?_))))
      obtain ⟨hs_34, h⟩ := h
      refine hl_v (v_add rfl rfl hs_34) rfl (hl_v (v_assign rfl) rfl (hl_nil (thenQ_n ?_)))
      exact ⟨_, _, (a_c 0 rfl (a_c 3 rfl (a_c 4 rfl (a_c 5 rfl a_n)))), ⟨s2, k2, (k22 + 1), _, rfl, rfl, h.1, hO⟩, h.2⟩
    ·replace h := ite_f h hc_25
     refine hw_exit (thenQ_e (thenQ_e (blockQ_hit (thenQ_n (hw_seq (hw_region (hl_v (v_move rfl) rfl (hl_v (v_move rfl) rfl ?_))))))))
     obtain ⟨hs_35, h⟩ := h
     refine hl_v (v_sliceLl Try.underlying22 Try.sizeOf3 rfl rfl (hO.osl 1 rfl) hs_35) rfl (hl_s (o_clear (g := fInt) (d := (0 : Int)) hO 1 rfl rfl Try.underlying22 Try.zeroValue3 rfl rfl rfl hs_35 rfl) ?_)
     rintro _ H_36 ⟨rfl, hO⟩
     refine hl_nil (thenQ_n (hw_seq (hw_region (hl_v (v_move rfl) rfl (hl_v (v_move rfl) rfl ?_)))))
     obtain ⟨hs_37, h⟩ := h
     refine hl_v (v_sliceLh Try.underlying22 Try.sizeOf3 rfl rfl (hO.osl 1 rfl) hs_37) rfl ?_
     replace hO : Own H_36 Z_20 (inZ Z :: own fInt 3 (slv v_1 1 0 k2.toNat) ((s2.take k2.toNat ++ List.replicate (s2.length - k2.toNat) (0 : Int)).take k2.toNat) :: L) := hO.trunc (i := 1) rfl (by have hq := hs_37; omega)
     refine hl_v (v_assign rfl) rfl (hl_nil (thenQ_n (hw_sub _ (a_c 2 rfl a_n) (hw_ret (blockQ_r (thenQ_r (thenQ_r (blockQ_r (thenQ_r (ret_i _ (ra_t rfl ra_nil) ?_))))))))))
     exact ⟨_, ((s2.take k2.toNat ++ List.replicate (s2.length - k2.toNat) (0 : Int)).take k2.toNat), (slv v_1 1 0 k2.toNat), (hO.inz 0 rfl), h, rfl, (Own.sel (Ls := [inZ Z, own fInt 3 (slv v_1 1 0 k2.toNat) ((s2.take k2.toNat ++ List.replicate (s2.length - k2.toNat) (0 : Int)).take k2.toNat)]) (L := L) [1] rfl hO)⟩
   ·replace h := ite_f h hc_14
    refine hw_skip (blockQ_n (thenQ_n (hw_region (hl_v (v_move rfl) rfl (hl_v (v_add rfl rfl (by have hq := of_decide_eq_true hc_11; have hm := hln_3; constructor <;> omega)) rfl (hl_v (v_assign rfl) rfl (hl_nil (thenQ_n ?_))))))))
    exact ⟨_, _, (a_c 0 rfl (a_c 3 rfl a_n)), ⟨k + 1, _, rfl, rfl, h, hO⟩, (by have hq := of_decide_eq_true hc_11; omega)⟩
  ·replace h := ite_f h hc_11
   refine hw_exit (thenQ_e (thenQ_e (blockQ_hit (thenQ_n (hw_seq (hw_region (hl_v (v_move rfl) rfl (hl_v (v_assign rfl) rfl (hl_nil (thenQ_n (hw_ret (ret_i _ (ra_t rfl ra_nil) ?_))))))))))))
   exact ⟨_, s, v_1, (hO.inz 0 rfl), h, rfl, (Own.sel (Ls := [inZ Z, own fInt 3 v_1 s]) (L := L) [1] rfl hO)⟩
theorem compactInt15_spec {a0 : List Int} {v_1 : Value} {L : List As} (hp : a0.length ≤ 1000000000000) {H : Heap} {Z : Nat → Prop} (hO : Own H Z (own fInt 3 v_1 a0 :: L))  : HC Try.prog 113 [v_1] H (fun v H' => ∃ (Z' : Nat → Prop) (v_2 : Value), (∀ b, Z b → Z' b) ∧ v = v_2 ∧ Own H' Z' (own fInt 3 v_2 ((cpL a0)) :: L)) := by
  refine (compactInt15_ok (s := a0) (@compactInt15_wp a0 hp) hO).mono ?_
  rintro v H' ⟨Z', r0, v_2, hz, hq, hv, hO'⟩
  obtain rfl := hq
  exact ⟨Z', v_2, hz, hv, hO'⟩

theorem orderedInt15_ok {l : List Int} {less : (Int → Int → Int)} {g_3 : FuncId} {cs_4 : List Value} {v_1 : Value} {Q : (List Int) → Prop} {H : Heap} {Z : Nat → Prop} {L : List As} (h : wp_orderedInt15 l less Q) (hO : Own H Z (L)) (hr_2 : Rd fInt.rep L v_1 l) (hg_5 : ∀ args w, (callFunc g_3 args).run Try.prog w = .ok (.enter g_3 args) w) (hp_6 : ∀ (Ls : List As) (q0 : Int) (q1 : Int)  {H : Heap} {Z : Nat → Prop}, Own H Z Ls → HC Try.prog g_3 ([] ++ [.int .i64 q0, .int .i64 q1] ++ cs_4) H (fun v H' => ∃ Z' : Nat → Prop, (∀ b, Z b → Z' b) ∧ v = .int .i64 (less q0 q1) ∧ Own H' Z' Ls)) : HC Try.prog 99 [v_1, .func (.func g_3) #[] cs_4.toArray] H (fun v H' => ∃ (Z' : Nat → Prop) (r0 : List Int) (v_7 : Value), (∀ b, Z b → Z' b) ∧ Q r0 ∧ v = v_7 ∧ Own H' Z' (own fInt 3 v_7 r0 :: L)) := by
 replace hO := hO.inZ
 unfold wp_orderedInt15 at h
 refine hc_of_hw (N := 13) (rs := [(.tmp 4)]) Try.func99 rfl rfl rfl rfl (hw_seq (hw_region (hl_v (v_assign rfl) rfl (hl_nil (thenQ_n (hw_seq (hw_region (hl_v (v_move rfl) rfl ?_))))))))
 obtain ⟨hs_8, h⟩ := h
 refine hl_h (h_call Try.call46 (evs_cons rfl evs_nil) (cloneInt_spec (a0 := l) hs_8 hO (Rd.tails [_] hr_2))) rfl ?_
 rintro v_9 H_10 ⟨Z_11, _, _, rfl, hO⟩
 refine hl_v (v_assign rfl) rfl (hl_nil (thenQ_n (hw_seq (hw_region (hl_v (v_move rfl) rfl (hl_v (v_move rfl) rfl ?_))))))
 obtain ⟨hs_13, h⟩ := h
 refine hl_h (h_call Try.call112 (evs_cons rfl (evs_cons rfl evs_nil)) (sortInt15_spec (a0 := l) (L := inZ Z :: L) hs_13 (Own.sel (Ls := [own fInt 3 v_9 l, inZ Z]) (L := L) [0, 1] rfl hO) hg_5 hp_6)) rfl ?_
 rintro _ H_14 ⟨Z_15, _, rfl, hO⟩
 refine hl_nil (thenQ_n (hw_seq (hw_region (hl_v (v_move rfl) rfl ?_))))
 obtain ⟨hs_17, h⟩ := h
 refine hl_h (h_call Try.call113 (evs_cons rfl evs_nil) (compactInt15_spec (a0 := (srtL less l)) (L := inZ Z :: L) hs_17 (Own.sel (Ls := [own fInt 3 v_9 (srtL less l), inZ Z]) (L := L) [0, 1] rfl hO))) rfl ?_
 rintro v_18 H_19 ⟨Z_20, _, _, rfl, hO⟩
 refine hl_v (v_assign rfl) rfl (hl_nil (thenQ_n (hw_ret (ret_i _ (ra_t rfl ra_nil) ?_))))
 exact ⟨_, (cpL (srtL less l)), v_18, (hO.inz 1 rfl), h, rfl, (Own.sel (Ls := [own fInt 3 v_18 (cpL (srtL less l)), inZ Z]) (L := L) [0] rfl hO)⟩
theorem orderedInt15_spec {a0 : List Int} {a1 : (Int → Int → Int)} {g_3 : FuncId} {cs_4 : List Value} {v_1 : Value} {L : List As} (hp : a0.length ≤ 1000000000000 ∧ TotC a1) {H : Heap} {Z : Nat → Prop} (hO : Own H Z (L)) (hr_2 : Rd fInt.rep L v_1 a0) (hg_5 : ∀ args w, (callFunc g_3 args).run Try.prog w = .ok (.enter g_3 args) w) (hp_6 : ∀ (Ls : List As) (q0 : Int) (q1 : Int)  {H : Heap} {Z : Nat → Prop}, Own H Z Ls → HC Try.prog g_3 ([] ++ [.int .i64 q0, .int .i64 q1] ++ cs_4) H (fun v H' => ∃ Z' : Nat → Prop, (∀ b, Z b → Z' b) ∧ v = .int .i64 (a1 q0 q1) ∧ Own H' Z' Ls)) : HC Try.prog 99 [v_1, .func (.func g_3) #[] cs_4.toArray] H (fun v H' => ∃ (Z' : Nat → Prop) (v_7 : Value), (∀ b, Z b → Z' b) ∧ v = v_7 ∧ Own H' Z' (own fInt 3 v_7 ((ordL a1 a0)) :: L)) := by
  refine (orderedInt15_ok (l := a0) (less := a1) (@orderedInt15_wp a0 a1 hp) hO hr_2 hg_5 hp_6).mono ?_
  rintro v H' ⟨Z', r0, v_7, hz, hq, hv, hO'⟩
  obtain rfl := hq
  exact ⟨Z', v_7, hz, hv, hO'⟩

theorem cloneTip_ok {s : List GTip} {v_1 : Value} {Q : (List GTip) → Prop} {H : Heap} {Z : Nat → Prop} {L : List As} (h : wp_cloneTip s Q) (hO : Own H Z (L)) (hr_2 : Rd fGTip.rep L v_1 s) : HC Try.prog 88 [v_1] H (fun v H' => ∃ (Z' : Nat → Prop) (r0 : List GTip) (v_3 : Value), (∀ b, Z b → Z' b) ∧ Q r0 ∧ v = v_3 ∧ Own H' Z' (own fGTip 91 v_3 r0 :: L)) := by
 replace hO := hO.inZ
 unfold wp_cloneTip at h
 refine hc_of_hw (N := 8) (rs := [(.tmp 2)]) Try.func88 rfl rfl rfl rfl (hw_seq (hw_region (hl_v (v_assign rfl) rfl (hl_nil (thenQ_n (hw_seq (hw_seq (hw_region (hl_v (v_move rfl) rfl ?_)))))))))
 replace h := h (isNil v_1) (fun hn => Sl.isNil (Rd.sl hr_2 (Own.tails [_] hO)) hn)
 refine hl_v (v_eqlNil Try.underlying45 rfl (Rd.sl hr_2 (Own.tails [_] hO))) rfl (hl_nil (thenQ_n (hw_cond rfl (fun hc_4 => ?_) (fun hc_4 => ?_))))
 ·replace h := ite_t h hc_4
  refine hw_seq (hw_region (hl_v (v_assign rfl) rfl (hl_nil (thenQ_n (hw_ret (thenQ_r ?_))))))
  replace hO := hO.nil fGTip 91
  refine ret_i _ (ra_t rfl ra_nil) ?_
  exact ⟨_, [], .slice none 0 0, (hO.inz 1 rfl), h, rfl, (Own.sel (Ls := [own fGTip 91 (.slice none 0 0) [], inZ Z]) (L := L) [0] rfl hO)⟩
 ·replace h := ite_f h hc_4
  refine hw_skip (thenQ_n (hw_seq (hw_region (hl_h (o_lit0 (g := fGTip) hO Try.underlying45 Try.sizeOf91) rfl ?_))))
  rintro v_6 H_5 hO
  refine hl_v (v_move rfl) rfl ?_
  obtain ⟨hs_9, h⟩ := h
  refine hl_h (o_append (l2 := s) hO 0 rfl rfl Try.underlying45 Try.type91 rfl rfl rfl rfl rfl rfl rfl (Rd.sl hr_2 (Own.tails [_, _] hO)) hs_9 (le63 hs_9 rfl)) rfl ?_
  rintro v_8 H_7 hO
  refine hl_v (v_assign rfl) rfl (hl_nil (thenQ_n (hw_ret (ret_i _ (ra_t rfl ra_nil) ?_))))
  exact ⟨_, ([] ++ s), v_8, (hO.inz 1 rfl), h, rfl, (Own.sel (Ls := [own fGTip 91 v_8 ([] ++ s), inZ Z]) (L := L) [0] rfl hO)⟩
theorem cloneTip_spec {a0 : List GTip} {v_1 : Value} {L : List As} (hp : a0.length ≤ 1000000000000) {H : Heap} {Z : Nat → Prop} (hO : Own H Z (L)) (hr_2 : Rd fGTip.rep L v_1 a0) : HC Try.prog 88 [v_1] H (fun v H' => ∃ (Z' : Nat → Prop) (v_3 : Value), (∀ b, Z b → Z' b) ∧ v = v_3 ∧ Own H' Z' (own fGTip 91 v_3 (a0) :: L)) := by
  refine (cloneTip_ok (s := a0) (@cloneTip_wp a0 hp) hO hr_2).mono ?_
  rintro v H' ⟨Z', r0, v_3, hz, hq, hv, hO'⟩
  obtain rfl := hq
  exact ⟨Z', v_3, hz, hv, hO'⟩

theorem sortTip_spec {a0 : List GTip} {f : GTip → GTip → Int} {g_0 : FuncId} {cs_0 : List Value} {v_1 : Value} {L : List As} (hp : TotC f ∧ a0.length < 4611686018427387904) {H : Heap} {Z : Nat → Prop} (hO : Own H Z (own fGTip 91 v_1 a0 :: L))
  (hg_0 : ∀ args w, (callFunc g_0 args).run Try.prog w = .ok (.enter g_0 args) w)
  (hp_0 : ∀ (Ls : List As) (q0 q1 : GTip) {H : Heap} {Z : Nat → Prop}, Own H Z Ls → HC Try.prog g_0 ([] ++ [.agg (fGTip.enc q0).toArray, .agg (fGTip.enc q1).toArray] ++ cs_0) H (fun v H' => ∃ Z' : Nat → Prop, (∀ b, Z b → Z' b) ∧ v = .int .i64 (f q0 q1) ∧ Own H' Z' Ls)) :
  HC Try.prog 89 [v_1, .func (.func g_0) #[] cs_0.toArray] H (fun r H' => ∃ Z' : Nat → Prop, (∀ b, Z b → Z' b) ∧ r = .tuple #[] ∧ Own H' Z' (own fGTip 91 v_1 (srtL f a0) :: L)) :=
  hc_sortK (P := Try.prog) (ρ := sortTipL_ren) (g := fGTip) sortTipL Try.isAgg91 Try.sizeOf91 hp hO hg_0 hp_0
theorem compactTip_ok {s : List GTip} {v_1 : Value} {Q : (List GTip) → Prop} {H : Heap} {Z : Nat → Prop} {L : List As} (h : wp_compactTip s Q) (hO : Own H Z (own fGTip 91 v_1 s :: L))  : HC Try.prog 90 [v_1] H (fun v H' => ∃ (Z' : Nat → Prop) (r0 : List GTip) (v_2 : Value), (∀ b, Z b → Z' b) ∧ Q r0 ∧ v = v_2 ∧ Own H' Z' (own fGTip 91 v_2 r0 :: L)) := by
 replace hO := hO.inZ
 unfold wp_compactTip at h
 refine hc_of_hw (N := 61) (rs := [(.tmp 2)]) Try.func90 rfl rfl rfl rfl (hw_seq (hw_region (hl_v (v_assign rfl) rfl (hl_nil (thenQ_n (hw_seq (hw_seq (hw_region (hl_v (v_move rfl) rfl ?_)))))))))
 have hln_3 := Sl.cap (hO.osl 1 rfl)
 refine hl_v (v_lenL rfl Try.underlying45 rfl (hO.osl 1 rfl)) rfl (hl_v (v_lss rfl rfl) rfl (hl_nil (thenQ_n (hw_cond rfl (fun hc_4 => ?_) (fun hc_4 => ?_)))))
 ·replace h := ite_t h hc_4
  refine hw_seq (hw_region (hl_v (v_move rfl) rfl (hl_v (v_assign rfl) rfl (hl_nil (thenQ_n (hw_ret (thenQ_r (ret_i _ (ra_t rfl ra_nil) ?_))))))))
  exact ⟨_, s, v_1, (hO.inz 0 rfl), h, rfl, (Own.sel (Ls := [inZ Z, own fGTip 91 v_1 s]) (L := L) [1] rfl hO)⟩
 ·replace h := ite_f h hc_4
  refine hw_skip (thenQ_n (hw_seq (hw_seq (hw_region (hl_v (v_assign rfl) rfl (hl_nil (thenQ_n (hw_block ?_))))))))
  obtain ⟨I_5, h, hI_7⟩ := h
  refine hw_lp (fun n' g' H' => ∃ (k : Nat) (Z' : Nat → Prop), n' = s.length - k ∧ g' = [(0, v_1), (3, .int .i64 (k : Int))] ∧ I_5 k ∧ Own H' Z' (inZ Z :: own fGTip 91 v_1 s :: L)) _ _ (a_c 0 rfl (a_c 3 rfl a_n)) ⟨1, _, rfl, rfl, h, hO⟩ ?_
  rintro _ _ H_8 ⟨k, Z_9, rfl, rfl, h, hO⟩
  replace h := hI_7 k h
  refine hw_seq (hw_seq (hw_region (hl_v (v_move rfl) rfl (hl_v (v_move rfl) rfl (hl_v (v_lenL rfl Try.underlying45 rfl (hO.osl 1 rfl)) rfl (hl_v (v_lss rfl rfl) rfl (hl_nil (thenQ_n (hw_cond rfl (fun hc_11 => ?_) (fun hc_11 => ?_))))))))))
  ·replace h := ite_t h hc_11
   refine hw_skip (thenQ_n (hw_seq (hw_block (hw_seq (hw_quiet Try.mixed (by kernel_rfl) (hq_v (v_move rfl) rfl (hq_v (v_move rfl) rfl (hq_v (v_ixL Try.underlying45 Try.sizeOf91 rfl rfl (hO.osl 1 rfl) (by exact ⟨Int.natCast_nonneg _, of_decide_eq_true hc_11⟩)) rfl (hq_v (v_loadFl Try.isAgg91 Try.sizeOf91 rfl (hO.osl 1 rfl) rfl (by exact ⟨Int.natCast_nonneg _, of_decide_eq_true hc_11⟩)) rfl (hq_v (v_move rfl) rfl (hq_v (v_move rfl) rfl ?_)))))))))))
   obtain ⟨hs_12, h⟩ := h
   refine hq_v (v_sub rfl rfl hs_12) rfl ?_
   obtain ⟨hs_13, h⟩ := h
   refine hq_v (v_ixL Try.underlying45 Try.sizeOf91 rfl rfl (hO.osl 1 rfl) hs_13) rfl (hq_v (v_loadFl Try.isAgg91 Try.sizeOf91 rfl (hO.osl 1 rfl) rfl hs_13) rfl (hq_v (v_eqlRec (by kernel_rfl) rfl rfl (eqv_91_15 _ _)) rfl (hq_nil (thenQ_n (hw_sub _ (a_c 0 rfl (a_c 3 rfl (a_c 25 rfl a_n))) (hw_cond rfl (fun hc_14 => ?_) (fun hc_14 => ?_)))))))
   ·replace h := ite_t h hc_14
    refine hw_seq (hw_region (hl_v (v_move rfl) rfl (hl_v (v_move rfl) rfl ?_)))
    obtain ⟨hs_15, h⟩ := h
    refine hl_v (v_sliceLl Try.underlying45 Try.sizeOf91 rfl rfl (hO.osl 1 rfl) hs_15) rfl (hl_v (v_assign rfl) rfl (hl_nil (thenQ_n (hw_seq (hw_seq (hw_region (hl_v (v_assign rfl) rfl (hl_nil (thenQ_n (hw_block ?_))))))))))
    obtain ⟨I_16, μ_17, h, hI_18⟩ := h
    refine hw_lp (fun n' g' H' => ∃ (s2 : List GTip) (k2 : Int) (k22 : Int) (Z' : Nat → Prop), n' = μ_17 s2 k2 k22 ∧ g' = [(0, v_1), (3, .int .i64 k2), (4, (slv v_1 2 k (s.length - k))), (5, .int .i64 k22)] ∧ I_16 s2 k2 k22 ∧ Own H' Z' (inZ Z :: own fGTip 91 v_1 s2 :: L)) _ _ (a_c 0 rfl (a_c 3 rfl (a_c 4 rfl (a_c 5 rfl a_n)))) ⟨s, (k : Int), 1, _, rfl, rfl, h, hO⟩ ?_
    rintro _ _ H_19 ⟨s2, k2, k22, Z_20, rfl, rfl, h, hO⟩
    replace h := hI_18 s2 k2 k22 h
    refine hw_seq (hw_seq (hw_region (hl_v (v_move rfl) rfl (hl_v (v_move rfl) rfl ?_))))
    obtain ⟨hs_22, h⟩ := h
    obtain ⟨hs_23, h⟩ := h
    have hln_24 := Sl.cap (slvl_len (hO.osl 1 rfl) hs_22 hs_23 rfl)
    refine hl_v (v_lenL rfl Try.underlying45 rfl (slvl_len (hO.osl 1 rfl) hs_22 hs_23 rfl)) rfl (hl_v (v_lss rfl rfl) rfl (hl_nil (thenQ_n (hw_cond rfl (fun hc_25 => ?_) (fun hc_25 => ?_)))))
    ·replace h := ite_t h hc_25
     refine hw_skip (thenQ_n (hw_seq (hw_block (hw_seq (hw_quiet Try.mixed (by kernel_rfl) (hq_v (v_move rfl) rfl (hq_v (v_move rfl) rfl ?_)))))))
     obtain ⟨hs_26, h⟩ := h
     refine hq_v (v_ixL Try.underlying45 Try.sizeOf91 rfl rfl (slvl_len (hO.osl 1 rfl) hs_22 hs_23 rfl) hs_26) rfl (hq_v (v_loadFl Try.isAgg91 Try.sizeOf91 rfl (slvl_len (hO.osl 1 rfl) hs_22 hs_23 rfl) rfl hs_26) rfl (hq_v (v_move rfl) rfl (hq_v (v_move rfl) rfl ?_)))
     obtain ⟨hs_27, h⟩ := h
     refine hq_v (v_sub rfl rfl hs_27) rfl ?_
     obtain ⟨hs_28, h⟩ := h
     refine hq_v (v_ixL Try.underlying45 Try.sizeOf91 rfl rfl (slvl_len (hO.osl 1 rfl) hs_22 hs_23 rfl) hs_28) rfl (hq_v (v_loadFl Try.isAgg91 Try.sizeOf91 rfl (slvl_len (hO.osl 1 rfl) hs_22 hs_23 rfl) rfl hs_28) rfl (hq_v (v_neqRec (by kernel_rfl) rfl rfl (eqv_91_15 _ _)) rfl (hq_nil (thenQ_n (hw_sub _ (a_c 0 rfl (a_c 3 rfl (a_c 4 rfl (a_c 5 rfl (a_c 44 rfl a_n))))) (hw_cond rfl (fun hc_29 => ?_) (fun hc_29 => ?_)))))))
     ·replace h := ite_t h hc_29
      refine hw_seq (hw_region (hl_v (v_move rfl) rfl (hl_v (v_move rfl) rfl (hl_v (v_move rfl) rfl (hl_v (v_move rfl) rfl (hl_v (v_ixL Try.underlying45 Try.sizeOf91 rfl rfl (slvl_len (hO.osl 1 rfl) hs_22 hs_23 rfl) hs_26) rfl (hl_v (v_loadFl Try.isAgg91 Try.sizeOf91 rfl (slvl_len (hO.osl 1 rfl) hs_22 hs_23 rfl) rfl hs_26) rfl ?_)))))))
      obtain ⟨hs_30, h⟩ := h
      refine hl_v (v_ixL Try.underlying45 Try.sizeOf91 rfl rfl (hO.osl 1 rfl) hs_30) rfl (hl_s (o_setA (x' := ((s2.drop k).getD k22.toNat default)) hO 1 rfl Try.sizeOf91 rfl rfl rfl hs_30 rfl) ?_)
      rintro _ H_31 hO
      refine hl_nil (thenQ_n (hw_region (hl_v (v_move rfl) rfl ?_)))
      obtain ⟨hs_32, h⟩ := h
      refine hl_v (v_add rfl rfl hs_32) rfl (hl_v (v_assign rfl) rfl (hl_nil (blockQ_n (thenQ_n (hw_region (hl_v (v_move rfl) rfl ?_))))))
      obtain ⟨hs_33, h⟩ := h
      refine hl_v (v_add rfl rfl hs_33) rfl (hl_v (v_assign rfl) rfl (hl_nil (thenQ_n ?_)))
      exact ⟨_, _, (a_c 0 rfl (a_c 3 rfl (a_c 4 rfl (a_c 5 rfl a_n)))), ⟨(s2.set k2.toNat ((s2.drop k).getD k22.toNat default)), (k2 + 1), (k22 + 1), _, rfl, rfl, h.1, hO⟩, h.2⟩
     ·replace h := ite_f h hc_29
      refine hw_skip (blockQ_n (thenQ_n (hw_region (hl_v (v_move rfl) rfl ?_))))
      obtain ⟨hs_34, h⟩ := h
      refine hl_v (v_add rfl rfl hs_34) rfl (hl_v (v_assign rfl) rfl (hl_nil (thenQ_n ?_)))
      exact ⟨_, _, (a_c 0 rfl (a_c 3 rfl (a_c 4 rfl (a_c 5 rfl a_n)))), ⟨s2, k2, (k22 + 1), _, rfl, rfl, h.1, hO⟩, h.2⟩
    ·replace h := ite_f h hc_25
     refine hw_exit (thenQ_e (thenQ_e (blockQ_hit (thenQ_n (hw_seq (hw_region (hl_v (v_move rfl) rfl (hl_v (v_move rfl) rfl ?_))))))))
     obtain ⟨hs_35, h⟩ := h
     refine hl_v (v_sliceLl Try.underlying45 Try.sizeOf91 rfl rfl (hO.osl 1 rfl) hs_35) rfl (hl_s (o_clear (g := fGTip) (d := (⟨(0 : Int), ([] : List UInt8)⟩ : GTip)) hO 1 rfl rfl Try.underlying45 Try.zeroValue91 rfl rfl rfl hs_35 rfl) ?_)
     rintro _ H_36 ⟨rfl, hO⟩
     refine hl_nil (thenQ_n (hw_seq (hw_region (hl_v (v_move rfl) rfl (hl_v (v_move rfl) rfl ?_)))))
     obtain ⟨hs_37, h⟩ := h
     refine hl_v (v_sliceLh Try.underlying45 Try.sizeOf91 rfl rfl (hO.osl 1 rfl) hs_37) rfl ?_
     replace hO : Own H_36 Z_20 (inZ Z :: own fGTip 91 (slv v_1 2 0 k2.toNat) ((s2.take k2.toNat ++ List.replicate (s2.length - k2.toNat) (⟨(0 : Int), ([] : List UInt8)⟩ : GTip)).take k2.toNat) :: L) := hO.trunc (i := 1) rfl (by have hq := hs_37; omega)
     refine hl_v (v_assign rfl) rfl (hl_nil (thenQ_n (hw_sub _ (a_c 2 rfl a_n) (hw_ret (blockQ_r (thenQ_r (thenQ_r (blockQ_r (thenQ_r (ret_i _ (ra_t rfl ra_nil) ?_))))))))))
     exact ⟨_, ((s2.take k2.toNat ++ List.replicate (s2.length - k2.toNat) (⟨(0 : Int), ([] : List UInt8)⟩ : GTip)).take k2.toNat), (slv v_1 2 0 k2.toNat), (hO.inz 0 rfl), h, rfl, (Own.sel (Ls := [inZ Z, own fGTip 91 (slv v_1 2 0 k2.toNat) ((s2.take k2.toNat ++ List.replicate (s2.length - k2.toNat) (⟨(0 : Int), ([] : List UInt8)⟩ : GTip)).take k2.toNat)]) (L := L) [1] rfl hO)⟩
   ·replace h := ite_f h hc_14
    refine hw_skip (blockQ_n (thenQ_n (hw_region (hl_v (v_move rfl) rfl (hl_v (v_add rfl rfl (by have hq := of_decide_eq_true hc_11; have hm := hln_3; constructor <;> omega)) rfl (hl_v (v_assign rfl) rfl (hl_nil (thenQ_n ?_))))))))
    exact ⟨_, _, (a_c 0 rfl (a_c 3 rfl a_n)), ⟨k + 1, _, rfl, rfl, h, hO⟩, (by have hq := of_decide_eq_true hc_11; omega)⟩
  ·replace h := ite_f h hc_11
   refine hw_exit (thenQ_e (thenQ_e (blockQ_hit (thenQ_n (hw_seq (hw_region (hl_v (v_move rfl) rfl (hl_v (v_assign rfl) rfl (hl_nil (thenQ_n (hw_ret (ret_i _ (ra_t rfl ra_nil) ?_))))))))))))
   exact ⟨_, s, v_1, (hO.inz 0 rfl), h, rfl, (Own.sel (Ls := [inZ Z, own fGTip 91 v_1 s]) (L := L) [1] rfl hO)⟩
theorem compactTip_spec {a0 : List GTip} {v_1 : Value} {L : List As} (hp : a0.length ≤ 1000000000000) {H : Heap} {Z : Nat → Prop} (hO : Own H Z (own fGTip 91 v_1 a0 :: L))  : HC Try.prog 90 [v_1] H (fun v H' => ∃ (Z' : Nat → Prop) (v_2 : Value), (∀ b, Z b → Z' b) ∧ v = v_2 ∧ Own H' Z' (own fGTip 91 v_2 ((cpL a0)) :: L)) := by
  refine (compactTip_ok (s := a0) (@compactTip_wp a0 hp) hO).mono ?_
  rintro v H' ⟨Z', r0, v_2, hz, hq, hv, hO'⟩
  obtain rfl := hq
  exact ⟨Z', v_2, hz, hv, hO'⟩

theorem orderedTip_ok {l : List GTip} {less : (GTip → GTip → Int)} {g_3 : FuncId} {cs_4 : List Value} {v_1 : Value} {Q : (List GTip) → Prop} {H : Heap} {Z : Nat → Prop} {L : List As} (h : wp_orderedTip l less Q) (hO : Own H Z (L)) (hr_2 : Rd fGTip.rep L v_1 l) (hg_5 : ∀ args w, (callFunc g_3 args).run Try.prog w = .ok (.enter g_3 args) w) (hp_6 : ∀ (Ls : List As) (q0 : GTip) (q1 : GTip)  {H : Heap} {Z : Nat → Prop}, Own H Z Ls → HC Try.prog g_3 ([] ++ [.agg (fGTip.enc q0).toArray, .agg (fGTip.enc q1).toArray] ++ cs_4) H (fun v H' => ∃ Z' : Nat → Prop, (∀ b, Z b → Z' b) ∧ v = .int .i64 (less q0 q1) ∧ Own H' Z' Ls)) : HC Try.prog 63 [v_1, .func (.func g_3) #[] cs_4.toArray] H (fun v H' => ∃ (Z' : Nat → Prop) (r0 : List GTip) (v_7 : Value), (∀ b, Z b → Z' b) ∧ Q r0 ∧ v = v_7 ∧ Own H' Z' (own fGTip 91 v_7 r0 :: L)) := by
 replace hO := hO.inZ
 unfold wp_orderedTip at h
 refine hc_of_hw (N := 13) (rs := [(.tmp 4)]) Try.func63 rfl rfl rfl rfl (hw_seq (hw_region (hl_v (v_assign rfl) rfl (hl_nil (thenQ_n (hw_seq (hw_region (hl_v (v_move rfl) rfl ?_))))))))
 obtain ⟨hs_8, h⟩ := h
 refine hl_h (h_call Try.call88 (evs_cons rfl evs_nil) (cloneTip_spec (a0 := l) hs_8 hO (Rd.tails [_] hr_2))) rfl ?_
 rintro v_9 H_10 ⟨Z_11, _, _, rfl, hO⟩
 refine hl_v (v_assign rfl) rfl (hl_nil (thenQ_n (hw_seq (hw_region (hl_v (v_move rfl) rfl (hl_v (v_move rfl) rfl ?_))))))
 obtain ⟨hs_13, h⟩ := h
 refine hl_h (h_call Try.call89 (evs_cons rfl (evs_cons rfl evs_nil)) (sortTip_spec (a0 := l) (L := inZ Z :: L) hs_13 (Own.sel (Ls := [own fGTip 91 v_9 l, inZ Z]) (L := L) [0, 1] rfl hO) hg_5 hp_6)) rfl ?_
 rintro _ H_14 ⟨Z_15, _, rfl, hO⟩
 refine hl_nil (thenQ_n (hw_seq (hw_region (hl_v (v_move rfl) rfl ?_))))
 obtain ⟨hs_17, h⟩ := h
 refine hl_h (h_call Try.call90 (evs_cons rfl evs_nil) (compactTip_spec (a0 := (srtL less l)) (L := inZ Z :: L) hs_17 (Own.sel (Ls := [own fGTip 91 v_9 (srtL less l), inZ Z]) (L := L) [0, 1] rfl hO))) rfl ?_
 rintro v_18 H_19 ⟨Z_20, _, _, rfl, hO⟩
 refine hl_v (v_assign rfl) rfl (hl_nil (thenQ_n (hw_ret (ret_i _ (ra_t rfl ra_nil) ?_))))
 exact ⟨_, (cpL (srtL less l)), v_18, (hO.inz 1 rfl), h, rfl, (Own.sel (Ls := [own fGTip 91 v_18 (cpL (srtL less l)), inZ Z]) (L := L) [0] rfl hO)⟩
theorem orderedTip_spec {a0 : List GTip} {a1 : (GTip → GTip → Int)} {g_3 : FuncId} {cs_4 : List Value} {v_1 : Value} {L : List As} (hp : a0.length ≤ 1000000000000 ∧ TotC a1) {H : Heap} {Z : Nat → Prop} (hO : Own H Z (L)) (hr_2 : Rd fGTip.rep L v_1 a0) (hg_5 : ∀ args w, (callFunc g_3 args).run Try.prog w = .ok (.enter g_3 args) w) (hp_6 : ∀ (Ls : List As) (q0 : GTip) (q1 : GTip)  {H : Heap} {Z : Nat → Prop}, Own H Z Ls → HC Try.prog g_3 ([] ++ [.agg (fGTip.enc q0).toArray, .agg (fGTip.enc q1).toArray] ++ cs_4) H (fun v H' => ∃ Z' : Nat → Prop, (∀ b, Z b → Z' b) ∧ v = .int .i64 (a1 q0 q1) ∧ Own H' Z' Ls)) : HC Try.prog 63 [v_1, .func (.func g_3) #[] cs_4.toArray] H (fun v H' => ∃ (Z' : Nat → Prop) (v_7 : Value), (∀ b, Z b → Z' b) ∧ v = v_7 ∧ Own H' Z' (own fGTip 91 v_7 ((ordL a1 a0)) :: L)) := by
  refine (orderedTip_ok (l := a0) (less := a1) (@orderedTip_wp a0 a1 hp) hO hr_2 hg_5 hp_6).mono ?_
  rintro v H' ⟨Z', r0, v_7, hz, hq, hv, hO'⟩
  obtain rfl := hq
  exact ⟨Z', v_7, hz, hv, hO'⟩

theorem cloneArc_ok {s : List GArc} {v_1 : Value} {Q : (List GArc) → Prop} {H : Heap} {Z : Nat → Prop} {L : List As} (h : wp_cloneArc s Q) (hO : Own H Z (L)) (hr_2 : Rd fGArc.rep L v_1 s) : HC Try.prog 93 [v_1] H (fun v H' => ∃ (Z' : Nat → Prop) (r0 : List GArc) (v_3 : Value), (∀ b, Z b → Z' b) ∧ Q r0 ∧ v = v_3 ∧ Own H' Z' (own fGArc 50 v_3 r0 :: L)) := by
 replace hO := hO.inZ
 unfold wp_cloneArc at h
 refine hc_of_hw (N := 8) (rs := [(.tmp 2)]) Try.func93 rfl rfl rfl rfl (hw_seq (hw_region (hl_v (v_assign rfl) rfl (hl_nil (thenQ_n (hw_seq (hw_seq (hw_region (hl_v (v_move rfl) rfl ?_)))))))))
 replace h := h (isNil v_1) (fun hn => Sl.isNil (Rd.sl hr_2 (Own.tails [_] hO)) hn)
 refine hl_v (v_eqlNil Try.underlying46 rfl (Rd.sl hr_2 (Own.tails [_] hO))) rfl (hl_nil (thenQ_n (hw_cond rfl (fun hc_4 => ?_) (fun hc_4 => ?_))))
 ·replace h := ite_t h hc_4
  refine hw_seq (hw_region (hl_v (v_assign rfl) rfl (hl_nil (thenQ_n (hw_ret (thenQ_r ?_))))))
  replace hO := hO.nil fGArc 50
  refine ret_i _ (ra_t rfl ra_nil) ?_
  exact ⟨_, [], .slice none 0 0, (hO.inz 1 rfl), h, rfl, (Own.sel (Ls := [own fGArc 50 (.slice none 0 0) [], inZ Z]) (L := L) [0] rfl hO)⟩
 ·replace h := ite_f h hc_4
  refine hw_skip (thenQ_n (hw_seq (hw_region (hl_h (o_lit0 (g := fGArc) hO Try.underlying46 Try.sizeOf50) rfl ?_))))
  rintro v_6 H_5 hO
  refine hl_v (v_move rfl) rfl ?_
  obtain ⟨hs_9, h⟩ := h
  refine hl_h (o_append (l2 := s) hO 0 rfl rfl Try.underlying46 Try.type50 rfl rfl rfl rfl rfl rfl rfl (Rd.sl hr_2 (Own.tails [_, _] hO)) hs_9 (le63 hs_9 rfl)) rfl ?_
  rintro v_8 H_7 hO
  refine hl_v (v_assign rfl) rfl (hl_nil (thenQ_n (hw_ret (ret_i _ (ra_t rfl ra_nil) ?_))))
  exact ⟨_, ([] ++ s), v_8, (hO.inz 1 rfl), h, rfl, (Own.sel (Ls := [own fGArc 50 v_8 ([] ++ s), inZ Z]) (L := L) [0] rfl hO)⟩
theorem cloneArc_spec {a0 : List GArc} {v_1 : Value} {L : List As} (hp : a0.length ≤ 1000000000000) {H : Heap} {Z : Nat → Prop} (hO : Own H Z (L)) (hr_2 : Rd fGArc.rep L v_1 a0) : HC Try.prog 93 [v_1] H (fun v H' => ∃ (Z' : Nat → Prop) (v_3 : Value), (∀ b, Z b → Z' b) ∧ v = v_3 ∧ Own H' Z' (own fGArc 50 v_3 (a0) :: L)) := by
  refine (cloneArc_ok (s := a0) (@cloneArc_wp a0 hp) hO hr_2).mono ?_
  rintro v H' ⟨Z', r0, v_3, hz, hq, hv, hO'⟩
  obtain rfl := hq
  exact ⟨Z', v_3, hz, hv, hO'⟩

theorem sortArc_spec {a0 : List GArc} {f : GArc → GArc → Int} {g_0 : FuncId} {cs_0 : List Value} {v_1 : Value} {L : List As} (hp : TotC f ∧ a0.length < 4611686018427387904) {H : Heap} {Z : Nat → Prop} (hO : Own H Z (own fGArc 50 v_1 a0 :: L))
  (hg_0 : ∀ args w, (callFunc g_0 args).run Try.prog w = .ok (.enter g_0 args) w)
  (hp_0 : ∀ (Ls : List As) (q0 q1 : GArc) {H : Heap} {Z : Nat → Prop}, Own H Z Ls → HC Try.prog g_0 ([] ++ [.agg (fGArc.enc q0).toArray, .agg (fGArc.enc q1).toArray] ++ cs_0) H (fun v H' => ∃ Z' : Nat → Prop, (∀ b, Z b → Z' b) ∧ v = .int .i64 (f q0 q1) ∧ Own H' Z' Ls)) :
  HC Try.prog 94 [v_1, .func (.func g_0) #[] cs_0.toArray] H (fun r H' => ∃ Z' : Nat → Prop, (∀ b, Z b → Z' b) ∧ r = .tuple #[] ∧ Own H' Z' (own fGArc 50 v_1 (srtL f a0) :: L)) :=
  hc_sortK (P := Try.prog) (ρ := sortArcL_ren) (g := fGArc) sortArcL Try.isAgg50 Try.sizeOf50 hp hO hg_0 hp_0
theorem compactArc_ok {s : List GArc} {v_1 : Value} {Q : (List GArc) → Prop} {H : Heap} {Z : Nat → Prop} {L : List As} (h : wp_compactArc s Q) (hO : Own H Z (own fGArc 50 v_1 s :: L))  : HC Try.prog 95 [v_1] H (fun v H' => ∃ (Z' : Nat → Prop) (r0 : List GArc) (v_2 : Value), (∀ b, Z b → Z' b) ∧ Q r0 ∧ v = v_2 ∧ Own H' Z' (own fGArc 50 v_2 r0 :: L)) := by
 replace hO := hO.inZ
 unfold wp_compactArc at h
 refine hc_of_hw (N := 61) (rs := [(.tmp 2)]) Try.func95 rfl rfl rfl rfl (hw_seq (hw_region (hl_v (v_assign rfl) rfl (hl_nil (thenQ_n (hw_seq (hw_seq (hw_region (hl_v (v_move rfl) rfl ?_)))))))))
 have hln_3 := Sl.cap (hO.osl 1 rfl)
 refine hl_v (v_lenL rfl Try.underlying46 rfl (hO.osl 1 rfl)) rfl (hl_v (v_lss rfl rfl) rfl (hl_nil (thenQ_n (hw_cond rfl (fun hc_4 => ?_) (fun hc_4 => ?_)))))
 ·replace h := ite_t h hc_4
  refine hw_seq (hw_region (hl_v (v_move rfl) rfl (hl_v (v_assign rfl) rfl (hl_nil (thenQ_n (hw_ret (thenQ_r (ret_i _ (ra_t rfl ra_nil) ?_))))))))
  exact ⟨_, s, v_1, (hO.inz 0 rfl), h, rfl, (Own.sel (Ls := [inZ Z, own fGArc 50 v_1 s]) (L := L) [1] rfl hO)⟩
 ·replace h := ite_f h hc_4
  refine hw_skip (thenQ_n (hw_seq (hw_seq (hw_region (hl_v (v_assign rfl) rfl (hl_nil (thenQ_n (hw_block ?_))))))))
  obtain ⟨I_5, h, hI_7⟩ := h
  refine hw_lp (fun n' g' H' => ∃ (k : Nat) (Z' : Nat → Prop), n' = s.length - k ∧ g' = [(0, v_1), (3, .int .i64 (k : Int))] ∧ I_5 k ∧ Own H' Z' (inZ Z :: own fGArc 50 v_1 s :: L)) _ _ (a_c 0 rfl (a_c 3 rfl a_n)) ⟨1, _, rfl, rfl, h, hO⟩ ?_
  rintro _ _ H_8 ⟨k, Z_9, rfl, rfl, h, hO⟩
  replace h := hI_7 k h
  refine hw_seq (hw_seq (hw_region (hl_v (v_move rfl) rfl (hl_v (v_move rfl) rfl (hl_v (v_lenL rfl Try.underlying46 rfl (hO.osl 1 rfl)) rfl (hl_v (v_lss rfl rfl) rfl (hl_nil (thenQ_n (hw_cond rfl (fun hc_11 => ?_) (fun hc_11 => ?_))))))))))
  ·replace h := ite_t h hc_11
   refine hw_skip (thenQ_n (hw_seq (hw_block (hw_seq (hw_quiet Try.mixed (by kernel_rfl) (hq_v (v_move rfl) rfl (hq_v (v_move rfl) rfl (hq_v (v_ixL Try.underlying46 Try.sizeOf50 rfl rfl (hO.osl 1 rfl) (by exact ⟨Int.natCast_nonneg _, of_decide_eq_true hc_11⟩)) rfl (hq_v (v_loadFl Try.isAgg50 Try.sizeOf50 rfl (hO.osl 1 rfl) rfl (by exact ⟨Int.natCast_nonneg _, of_decide_eq_true hc_11⟩)) rfl (hq_v (v_move rfl) rfl (hq_v (v_move rfl) rfl ?_)))))))))))
   obtain ⟨hs_12, h⟩ := h
   refine hq_v (v_sub rfl rfl hs_12) rfl ?_
   obtain ⟨hs_13, h⟩ := h
   refine hq_v (v_ixL Try.underlying46 Try.sizeOf50 rfl rfl (hO.osl 1 rfl) hs_13) rfl (hq_v (v_loadFl Try.isAgg50 Try.sizeOf50 rfl (hO.osl 1 rfl) rfl hs_13) rfl (hq_v (v_eqlRec (by kernel_rfl) rfl rfl (eqv_50_15 _ _)) rfl (hq_nil (thenQ_n (hw_sub _ (a_c 0 rfl (a_c 3 rfl (a_c 25 rfl a_n))) (hw_cond rfl (fun hc_14 => ?_) (fun hc_14 => ?_)))))))
   ·replace h := ite_t h hc_14
    refine hw_seq (hw_region (hl_v (v_move rfl) rfl (hl_v (v_move rfl) rfl ?_)))
    obtain ⟨hs_15, h⟩ := h
    refine hl_v (v_sliceLl Try.underlying46 Try.sizeOf50 rfl rfl (hO.osl 1 rfl) hs_15) rfl (hl_v (v_assign rfl) rfl (hl_nil (thenQ_n (hw_seq (hw_seq (hw_region (hl_v (v_assign rfl) rfl (hl_nil (thenQ_n (hw_block ?_))))))))))
    obtain ⟨I_16, μ_17, h, hI_18⟩ := h
    refine hw_lp (fun n' g' H' => ∃ (s2 : List GArc) (k2 : Int) (k22 : Int) (Z' : Nat → Prop), n' = μ_17 s2 k2 k22 ∧ g' = [(0, v_1), (3, .int .i64 k2), (4, (slv v_1 8 k (s.length - k))), (5, .int .i64 k22)] ∧ I_16 s2 k2 k22 ∧ Own H' Z' (inZ Z :: own fGArc 50 v_1 s2 :: L)) _ _ (a_c 0 rfl (a_c 3 rfl (a_c 4 rfl (a_c 5 rfl a_n)))) ⟨s, (k : Int), 1, _, rfl, rfl, h, hO⟩ ?_
    rintro _ _ H_19 ⟨s2, k2, k22, Z_20, rfl, rfl, h, hO⟩
    replace h := hI_18 s2 k2 k22 h
    refine hw_seq (hw_seq (hw_region (hl_v (v_move rfl) rfl (hl_v (v_move rfl) rfl ?_))))
    obtain ⟨hs_22, h⟩ := h
    obtain ⟨hs_23, h⟩ := h
    have hln_24 := Sl.cap (slvl_len (hO.osl 1 rfl) hs_22 hs_23 rfl)
    refine hl_v (v_lenL rfl Try.underlying46 rfl (slvl_len (hO.osl 1 rfl) hs_22 hs_23 rfl)) rfl (hl_v (v_lss rfl rfl) rfl (hl_nil (thenQ_n (hw_cond rfl (fun hc_25 => ?_) (fun hc_25 => ?_)))))
    ·replace h := ite_t h hc_25
     refine hw_skip (thenQ_n (hw_seq (hw_block (hw_seq (hw_quiet Try.mixed (by kernel_rfl) (hq_v (v_move rfl) rfl (hq_v (v_move rfl) rfl ?_)))))))
     obtain ⟨hs_26, h⟩ := h
     refine hq_v (v_ixL Try.underlying46 Try.sizeOf50 rfl rfl (slvl_len (hO.osl 1 rfl) hs_22 hs_23 rfl) hs_26) rfl (hq_v (v_loadFl Try.isAgg50 Try.sizeOf50 rfl (slvl_len (hO.osl 1 rfl) hs_22 hs_23 rfl) rfl hs_26) rfl (hq_v (v_move rfl) rfl (hq_v (v_move rfl) rfl ?_)))
     obtain ⟨hs_27, h⟩ := h
     refine hq_v (v_sub rfl rfl hs_27) rfl ?_
     obtain ⟨hs_28, h⟩ := h
     refine hq_v (v_ixL Try.underlying46 Try.sizeOf50 rfl rfl (slvl_len (hO.osl 1 rfl) hs_22 hs_23 rfl) hs_28) rfl (hq_v (v_loadFl Try.isAgg50 Try.sizeOf50 rfl (slvl_len (hO.osl 1 rfl) hs_22 hs_23 rfl) rfl hs_28) rfl (hq_v (v_neqRec (by kernel_rfl) rfl rfl (eqv_50_15 _ _)) rfl (hq_nil (thenQ_n (hw_sub _ (a_c 0 rfl (a_c 3 rfl (a_c 4 rfl (a_c 5 rfl (a_c 44 rfl a_n))))) (hw_cond rfl (fun hc_29 => ?_) (fun hc_29 => ?_)))))))
     ·replace h := ite_t h hc_29
      refine hw_seq (hw_region (hl_v (v_move rfl) rfl (hl_v (v_move rfl) rfl (hl_v (v_move rfl) rfl (hl_v (v_move rfl) rfl (hl_v (v_ixL Try.underlying46 Try.sizeOf50 rfl rfl (slvl_len (hO.osl 1 rfl) hs_22 hs_23 rfl) hs_26) rfl (hl_v (v_loadFl Try.isAgg50 Try.sizeOf50 rfl (slvl_len (hO.osl 1 rfl) hs_22 hs_23 rfl) rfl hs_26) rfl ?_)))))))
      obtain ⟨hs_30, h⟩ := h
      refine hl_v (v_ixL Try.underlying46 Try.sizeOf50 rfl rfl (hO.osl 1 rfl) hs_30) rfl (hl_s (o_setA (x' := ((s2.drop k).getD k22.toNat default)) hO 1 rfl Try.sizeOf50 rfl rfl rfl hs_30 rfl) ?_)
      rintro _ H_31 hO
      refine hl_nil (thenQ_n (hw_region (hl_v (v_move rfl) rfl ?_)))
      obtain ⟨hs_32, h⟩ := h
      refine hl_v (v_add rfl rfl hs_32) rfl (hl_v (v_assign rfl) rfl (hl_nil (blockQ_n (thenQ_n (hw_region (hl_v (v_move rfl) rfl ?_))))))
      obtain ⟨hs_33, h⟩ := h
      refine hl_v (v_add rfl rfl hs_33) rfl (hl_v (v_assign rfl) rfl (hl_nil (thenQ_n ?_)))
      exact ⟨_, _, (a_c 0 rfl (a_c 3 rfl (a_c 4 rfl (a_c 5 rfl a_n)))), ⟨(s2.set k2.toNat ((s2.drop k).getD k22.toNat default)), (k2 + 1), (k22 + 1), _, rfl, rfl, h.1, hO⟩, h.2⟩
     ·replace h := ite_f h hc_29
      refine hw_skip (blockQ_n (thenQ_n (hw_region (hl_v (v_move rfl) rfl ?_))))
      obtain ⟨hs_34, h⟩ := h
      refine hl_v (v_add rfl rfl hs_34) rfl (hl_v (v_assign rfl) rfl (hl_nil (thenQ_n ?_)))
      exact ⟨_, _, (a_c 0 rfl (a_c 3 rfl (a_c 4 rfl (a_c 5 rfl a_n)))), ⟨s2, k2, (k22 + 1), _, rfl, rfl, h.1, hO⟩, h.2⟩
    ·replace h := ite_f h hc_25
     refine hw_exit (thenQ_e (thenQ_e (blockQ_hit (thenQ_n (hw_seq (hw_region (hl_v (v_move rfl) rfl (hl_v (v_move rfl) rfl ?_))))))))
     obtain ⟨hs_35, h⟩ := h
     refine hl_v (v_sliceLl Try.underlying46 Try.sizeOf50 rfl rfl (hO.osl 1 rfl) hs_35) rfl (hl_s (o_clear (g := fGArc) (d := (⟨(0 : Int), (0 : Int), BSet.zero, ([] : List UInt8), false⟩ : GArc)) hO 1 rfl rfl Try.underlying46 Try.zeroValue50 rfl rfl rfl hs_35 rfl) ?_)
     rintro _ H_36 ⟨rfl, hO⟩
     refine hl_nil (thenQ_n (hw_seq (hw_region (hl_v (v_move rfl) rfl (hl_v (v_move rfl) rfl ?_)))))
     obtain ⟨hs_37, h⟩ := h
     refine hl_v (v_sliceLh Try.underlying46 Try.sizeOf50 rfl rfl (hO.osl 1 rfl) hs_37) rfl ?_
     replace hO : Own H_36 Z_20 (inZ Z :: own fGArc 50 (slv v_1 8 0 k2.toNat) ((s2.take k2.toNat ++ List.replicate (s2.length - k2.toNat) (⟨(0 : Int), (0 : Int), BSet.zero, ([] : List UInt8), false⟩ : GArc)).take k2.toNat) :: L) := hO.trunc (i := 1) rfl (by have hq := hs_37; omega)
     refine hl_v (v_assign rfl) rfl (hl_nil (thenQ_n (hw_sub _ (a_c 2 rfl a_n) (hw_ret (blockQ_r (thenQ_r (thenQ_r (blockQ_r (thenQ_r (ret_i _ (ra_t rfl ra_nil) ?_))))))))))
     exact ⟨_, ((s2.take k2.toNat ++ List.replicate (s2.length - k2.toNat) (⟨(0 : Int), (0 : Int), BSet.zero, ([] : List UInt8), false⟩ : GArc)).take k2.toNat), (slv v_1 8 0 k2.toNat), (hO.inz 0 rfl), h, rfl, (Own.sel (Ls := [inZ Z, own fGArc 50 (slv v_1 8 0 k2.toNat) ((s2.take k2.toNat ++ List.replicate (s2.length - k2.toNat) (⟨(0 : Int), (0 : Int), BSet.zero, ([] : List UInt8), false⟩ : GArc)).take k2.toNat)]) (L := L) [1] rfl hO)⟩
   ·replace h := ite_f h hc_14
    refine hw_skip (blockQ_n (thenQ_n (hw_region (hl_v (v_move rfl) rfl (hl_v (v_add rfl rfl (by have hq := of_decide_eq_true hc_11; have hm := hln_3; constructor <;> omega)) rfl (hl_v (v_assign rfl) rfl (hl_nil (thenQ_n ?_))))))))
    exact ⟨_, _, (a_c 0 rfl (a_c 3 rfl a_n)), ⟨k + 1, _, rfl, rfl, h, hO⟩, (by have hq := of_decide_eq_true hc_11; omega)⟩
  ·replace h := ite_f h hc_11
   refine hw_exit (thenQ_e (thenQ_e (blockQ_hit (thenQ_n (hw_seq (hw_region (hl_v (v_move rfl) rfl (hl_v (v_assign rfl) rfl (hl_nil (thenQ_n (hw_ret (ret_i _ (ra_t rfl ra_nil) ?_))))))))))))
   exact ⟨_, s, v_1, (hO.inz 0 rfl), h, rfl, (Own.sel (Ls := [inZ Z, own fGArc 50 v_1 s]) (L := L) [1] rfl hO)⟩
theorem compactArc_spec {a0 : List GArc} {v_1 : Value} {L : List As} (hp : a0.length ≤ 1000000000000) {H : Heap} {Z : Nat → Prop} (hO : Own H Z (own fGArc 50 v_1 a0 :: L))  : HC Try.prog 95 [v_1] H (fun v H' => ∃ (Z' : Nat → Prop) (v_2 : Value), (∀ b, Z b → Z' b) ∧ v = v_2 ∧ Own H' Z' (own fGArc 50 v_2 ((cpL a0)) :: L)) := by
  refine (compactArc_ok (s := a0) (@compactArc_wp a0 hp) hO).mono ?_
  rintro v H' ⟨Z', r0, v_2, hz, hq, hv, hO'⟩
  obtain rfl := hq
  exact ⟨Z', v_2, hz, hv, hO'⟩

theorem orderedArc_ok {l : List GArc} {less : (GArc → GArc → Int)} {g_3 : FuncId} {cs_4 : List Value} {v_1 : Value} {Q : (List GArc) → Prop} {H : Heap} {Z : Nat → Prop} {L : List As} (h : wp_orderedArc l less Q) (hO : Own H Z (L)) (hr_2 : Rd fGArc.rep L v_1 l) (hg_5 : ∀ args w, (callFunc g_3 args).run Try.prog w = .ok (.enter g_3 args) w) (hp_6 : ∀ (Ls : List As) (q0 : GArc) (q1 : GArc)  {H : Heap} {Z : Nat → Prop}, Own H Z Ls → HC Try.prog g_3 ([] ++ [.agg (fGArc.enc q0).toArray, .agg (fGArc.enc q1).toArray] ++ cs_4) H (fun v H' => ∃ Z' : Nat → Prop, (∀ b, Z b → Z' b) ∧ v = .int .i64 (less q0 q1) ∧ Own H' Z' Ls)) : HC Try.prog 65 [v_1, .func (.func g_3) #[] cs_4.toArray] H (fun v H' => ∃ (Z' : Nat → Prop) (r0 : List GArc) (v_7 : Value), (∀ b, Z b → Z' b) ∧ Q r0 ∧ v = v_7 ∧ Own H' Z' (own fGArc 50 v_7 r0 :: L)) := by
 replace hO := hO.inZ
 unfold wp_orderedArc at h
 refine hc_of_hw (N := 13) (rs := [(.tmp 4)]) Try.func65 rfl rfl rfl rfl (hw_seq (hw_region (hl_v (v_assign rfl) rfl (hl_nil (thenQ_n (hw_seq (hw_region (hl_v (v_move rfl) rfl ?_))))))))
 obtain ⟨hs_8, h⟩ := h
 refine hl_h (h_call Try.call93 (evs_cons rfl evs_nil) (cloneArc_spec (a0 := l) hs_8 hO (Rd.tails [_] hr_2))) rfl ?_
 rintro v_9 H_10 ⟨Z_11, _, _, rfl, hO⟩
 refine hl_v (v_assign rfl) rfl (hl_nil (thenQ_n (hw_seq (hw_region (hl_v (v_move rfl) rfl (hl_v (v_move rfl) rfl ?_))))))
 obtain ⟨hs_13, h⟩ := h
 refine hl_h (h_call Try.call94 (evs_cons rfl (evs_cons rfl evs_nil)) (sortArc_spec (a0 := l) (L := inZ Z :: L) hs_13 (Own.sel (Ls := [own fGArc 50 v_9 l, inZ Z]) (L := L) [0, 1] rfl hO) hg_5 hp_6)) rfl ?_
 rintro _ H_14 ⟨Z_15, _, rfl, hO⟩
 refine hl_nil (thenQ_n (hw_seq (hw_region (hl_v (v_move rfl) rfl ?_))))
 obtain ⟨hs_17, h⟩ := h
 refine hl_h (h_call Try.call95 (evs_cons rfl evs_nil) (compactArc_spec (a0 := (srtL less l)) (L := inZ Z :: L) hs_17 (Own.sel (Ls := [own fGArc 50 v_9 (srtL less l), inZ Z]) (L := L) [0, 1] rfl hO))) rfl ?_
 rintro v_18 H_19 ⟨Z_20, _, _, rfl, hO⟩
 refine hl_v (v_assign rfl) rfl (hl_nil (thenQ_n (hw_ret (ret_i _ (ra_t rfl ra_nil) ?_))))
 exact ⟨_, (cpL (srtL less l)), v_18, (hO.inz 1 rfl), h, rfl, (Own.sel (Ls := [own fGArc 50 v_18 (cpL (srtL less l)), inZ Z]) (L := L) [0] rfl hO)⟩
theorem orderedArc_spec {a0 : List GArc} {a1 : (GArc → GArc → Int)} {g_3 : FuncId} {cs_4 : List Value} {v_1 : Value} {L : List As} (hp : a0.length ≤ 1000000000000 ∧ TotC a1) {H : Heap} {Z : Nat → Prop} (hO : Own H Z (L)) (hr_2 : Rd fGArc.rep L v_1 a0) (hg_5 : ∀ args w, (callFunc g_3 args).run Try.prog w = .ok (.enter g_3 args) w) (hp_6 : ∀ (Ls : List As) (q0 : GArc) (q1 : GArc)  {H : Heap} {Z : Nat → Prop}, Own H Z Ls → HC Try.prog g_3 ([] ++ [.agg (fGArc.enc q0).toArray, .agg (fGArc.enc q1).toArray] ++ cs_4) H (fun v H' => ∃ Z' : Nat → Prop, (∀ b, Z b → Z' b) ∧ v = .int .i64 (a1 q0 q1) ∧ Own H' Z' Ls)) : HC Try.prog 65 [v_1, .func (.func g_3) #[] cs_4.toArray] H (fun v H' => ∃ (Z' : Nat → Prop) (v_7 : Value), (∀ b, Z b → Z' b) ∧ v = v_7 ∧ Own H' Z' (own fGArc 50 v_7 ((ordL a1 a0)) :: L)) := by
  refine (orderedArc_ok (l := a0) (less := a1) (@orderedArc_wp a0 a1 hp) hO hr_2 hg_5 hp_6).mono ?_
  rintro v H' ⟨Z', r0, v_7, hz, hq, hv, hO'⟩
  obtain rfl := hq
  exact ⟨Z', v_7, hz, hv, hO'⟩

theorem fCheck1_ok {s : Int} {c0 : GFst} {v_2 : Value} {v_4 : Value} {v_6 : Value} {b_1 : Nat} {Q : Bool → Prop} {H : Heap} {Z : Nat → Prop} {L : List As} (h : wp_fCheck1 s c0 Q) (hO : Own H Z (L)) (hf_3 : Fz fGTip.rep L v_2 c0.Starts) (hf_5 : Fz fGTip.rep L v_4 c0.Ends) (hf_7 : Fz fGArc.rep L v_6 c0.Arcs) (hb_8 : Bx L b_1 [.int .i64 c0.States, v_2, v_4, v_6] 48) : HC Try.prog 67 [.int .i64 s, ptr b_1 0] H (fun v H' => ∃ (r0 : Bool) , Q r0 ∧ v = .bool r0 ∧ H' = H) := by
 replace hO := Fz.item hf_3 hO
 replace hO := Fz.items [_] hf_5 hO
 replace hO := Fz.items [_, _] hf_7 hO
 unfold wp_fCheck1 at h
 refine hc_of_hw (N := 12) (rs := [(.tmp 3)]) Try.func67 rfl rfl rfl rfl (hw_seq (hw_region (hl_v (v_assign rfl) rfl (hl_nil (thenQ_n (hw_seq (hw_region (hl_v (v_move rfl) rfl (hl_v (v_geq rfl rfl) rfl (hl_v (v_move rfl) rfl (hl_g rfl rfl (fun hg => (v_move rfl)) rfl (hl_g rfl rfl (fun hg => (v_fieldA Try.underlying48 rfl Try.sizeOf3 rfl)) rfl (hl_g rfl rfl (fun hg => (v_load1 Try.isAgg3 (gv_ok rfl hg) (Blk.cell (hb_8 _ _ (Own.tails [_, _, _] hO)) rfl))) rfl (hl_g rfl rfl (fun hg => (v_lss (gv_ok rfl hg) (gv_ok rfl hg))) rfl (hl_v (v_and rfl rfl) rfl (hl_v (v_assign rfl) rfl (hl_nil (thenQ_n (hw_ret (ret_i _ (ra_t rfl ra_nil) ?_))))))))))))))))))))
 exact ⟨(decide (0 ≤ s) && decide (s < c0.States)), h, rfl, rfl⟩
theorem fCheck1_spec {a0 : Int} {a1 : GFst} {v_2 : Value} {v_4 : Value} {v_6 : Value} {b_1 : Nat} {L : List As} {H : Heap} {Z : Nat → Prop} (hO : Own H Z (L)) (hf_3 : Fz fGTip.rep L v_2 a1.Starts) (hf_5 : Fz fGTip.rep L v_4 a1.Ends) (hf_7 : Fz fGArc.rep L v_6 a1.Arcs) (hb_8 : Bx L b_1 [.int .i64 a1.States, v_2, v_4, v_6] 48) : HC Try.prog 67 [.int .i64 a0, ptr b_1 0] H (fun v H' => v = .bool (fIn a1 a0) ∧ H' = H) := by
  refine (fCheck1_ok (s := a0) (c0 := a1) (@fCheck1_wp a0 a1) hO hf_3 hf_5 hf_7 hb_8).mono ?_
  rintro v H' ⟨r0, hq, hv, hH⟩
  obtain rfl := hq
  exact ⟨hv, hH⟩

theorem fCheck2_ok {x : GTip} {c0 : GFst} {v_3 : Value} {v_5 : Value} {v_7 : Value} {b_1 : Nat} {b_2 : Nat} {Q : Bool → Prop} {H : Heap} {Z : Nat → Prop} {L : List As} (h : wp_fCheck2 x c0 Q) (hO : Own H Z (L)) (hf_4 : Fz fGTip.rep L v_3 c0.Starts) (hf_6 : Fz fGTip.rep L v_5 c0.Ends) (hf_8 : Fz fGArc.rep L v_7 c0.Arcs) (hb_9 : Bx L b_2 [.int .i64 c0.States, v_3, v_5, v_7] 48) (hb_10 : Bx L b_1 [.func (.func 67) #[] #[ptr b_2 0]] 71) : HC Try.prog 68 [.agg (fGTip.enc x).toArray, ptr b_1 0] H (fun v H' => ∃ (Z' : Nat → Prop) (r0 : Bool) , (∀ b, Z b → Z' b) ∧ Q r0 ∧ v = .bool r0 ∧ Own H' Z' (L)) := by
 replace hO := hO.inZ
 replace hO := Fz.items [_] hf_4 hO
 replace hO := Fz.items [_, _] hf_6 hO
 replace hO := Fz.items [_, _, _] hf_8 hO
 unfold wp_fCheck2 at h
 refine hc_of_hw (N := 15) (rs := [(.tmp 3)]) Try.func68 rfl rfl rfl rfl (hw_seq (hw_region (hl_h (o_box (cs := (fGTip.enc x)) hO rfl rfl) rfl ?_)))
 rintro _ H_11 ⟨b_12, rfl, hO⟩
 refine hl_v (v_assign rfl) rfl (hl_nil (thenQ_n (hw_seq (hw_region (hl_v (v_load1 Try.isAgg71 rfl (Blk.cell (hb_10 _ _ (Own.tails [_, _, _, _, _] hO)) rfl)) rfl (hl_v (v_fieldA Try.underlying91 rfl Try.sizeOf3 rfl) rfl (hl_v (v_load1 Try.isAgg3 rfl (Blk.cell (hO.box 0 rfl) rfl)) rfl (hl_v (v_callv (fs := []) (cs := [ptr b_2 0]) Try.call67 rfl (evs_cons rfl evs_nil) (fCheck1_spec (a0 := x.State) (a1 := c0) hO (Fz.of (i := 3) rfl) (Fz.of (i := 2) rfl) (Fz.of (i := 1) rfl) (Bx.tails [_, _, _, _, _] hb_9))) rfl (hl_v (v_not rfl) rfl (hl_v (v_move rfl) rfl (hl_g rfl rfl (fun hg => (v_fieldA Try.underlying91 rfl Try.sizeOf9 rfl)) rfl (hl_g rfl rfl (fun hg => (v_load1 Try.isAgg9 (gv_ok rfl hg) (Blk.cell (hO.box 0 rfl) rfl))) rfl (hl_g rfl rfl (fun hg => (v_lenS rfl Try.underlying9 (gv_ok rfl hg))) rfl (hl_g rfl rfl (fun hg => (v_gtr (gv_ok rfl hg) rfl)) rfl (hl_v (v_or rfl rfl) rfl (hl_v (v_assign rfl) rfl (hl_nil (thenQ_n (hw_sub _ (a_c 3 rfl a_n) (hw_ret (ret_i _ (ra_t rfl ra_nil) ?_)))))))))))))))))))))
 exact ⟨_, ((!fIn c0 x.State) || decide (1024 < (x.Out.length : Int))), (hO.inz 4 rfl), h, rfl, (Own.sel (Ls := [box b_12 (fGTip.enc x) 91, fz fGArc.rep v_7 c0.Arcs, fz fGTip.rep v_5 c0.Ends, fz fGTip.rep v_3 c0.Starts, inZ Z]) (L := L) [] rfl hO)⟩
theorem fCheck2_spec {a0 : GTip} {a1 : GFst} {v_3 : Value} {v_5 : Value} {v_7 : Value} {b_1 : Nat} {b_2 : Nat} {L : List As} {H : Heap} {Z : Nat → Prop} (hO : Own H Z (L)) (hf_4 : Fz fGTip.rep L v_3 a1.Starts) (hf_6 : Fz fGTip.rep L v_5 a1.Ends) (hf_8 : Fz fGArc.rep L v_7 a1.Arcs) (hb_9 : Bx L b_2 [.int .i64 a1.States, v_3, v_5, v_7] 48) (hb_10 : Bx L b_1 [.func (.func 67) #[] #[ptr b_2 0]] 71) : HC Try.prog 68 [.agg (fGTip.enc a0).toArray, ptr b_1 0] H (fun v H' => ∃ (Z' : Nat → Prop) , (∀ b, Z b → Z' b) ∧ v = .bool (fTipBad a1 a0) ∧ Own H' Z' (L)) := by
  refine (fCheck2_ok (x := a0) (c0 := a1) (@fCheck2_wp a0 a1) hO hf_4 hf_6 hf_8 hb_9 hb_10).mono ?_
  rintro v H' ⟨Z', r0, hz, hq, hv, hO'⟩
  obtain rfl := hq
  exact ⟨Z', hz, hv, hO'⟩

theorem indexTip_ok {s : List GTip} {f : (GTip → Bool)} {g_3 : FuncId} {cs_4 : List Value} {v_1 : Value} {Q : Int → Prop} {H : Heap} {Z : Nat → Prop} {L : List As} (h : wp_indexTip s f Q) (hO : Own H Z (L)) (hr_2 : Rd fGTip.rep L v_1 s) (hg_5 : ∀ args w, (callFunc g_3 args).run Try.prog w = .ok (.enter g_3 args) w) (hp_6 : ∀ (Ls : List As) (q0 : GTip)  {H : Heap} {Z : Nat → Prop}, Own H Z (Ls ++ L) → HC Try.prog g_3 ([] ++ [.agg (fGTip.enc q0).toArray] ++ cs_4) H (fun v H' => ∃ Z' : Nat → Prop, (∀ b, Z b → Z' b) ∧ v = .bool (f q0) ∧ Own H' Z' (Ls ++ L))) : HC Try.prog 98 [v_1, .func (.func g_3) #[] cs_4.toArray] H (fun v H' => ∃ (Z' : Nat → Prop) (r0 : Int) , (∀ b, Z b → Z' b) ∧ Q r0 ∧ v = .int .i64 r0 ∧ Own H' Z' (L)) := by
 replace hO := hO.inZ
 unfold wp_indexTip at h
 refine hc_of_hw (N := 19) (rs := [(.tmp 4)]) Try.func98 rfl rfl rfl rfl (hw_seq (hw_region (hl_v (v_assign rfl) rfl (hl_nil (thenQ_n (hw_seq (hw_seq (hw_region (hl_v (v_move rfl) rfl ?_)))))))))
 have hln_7 := Sl.cap (Rd.sl hr_2 (Own.tails [_] hO))
 refine hl_v (v_lenL rfl Try.underlying45 rfl (Rd.sl hr_2 (Own.tails [_] hO))) rfl (hl_v (v_move rfl) rfl (hl_nil (thenQ_n (hw_block ?_))))
 obtain ⟨I_8, h, hI_10⟩ := h
 refine hw_lp (fun n' g' H' => ∃ (k : Nat) (Z' : Nat → Prop), n' = s.length - k ∧ g' = [(0, v_1), (1, .func (.func g_3) #[] cs_4.toArray), (7, .int .i64 (s.length : Int)), (8, .int .i64 (k : Int))] ∧ I_8 k ∧ k ≤ s.length ∧ Own H' Z' (inZ Z :: L)) _ _ (a_c 0 rfl (a_c 1 rfl (a_c 7 rfl (a_c 8 rfl a_n)))) ⟨0, _, rfl, rfl, h, by omega, hO⟩ ?_
 rintro _ _ H_11 ⟨k, Z_12, rfl, rfl, h, hb_13, hO⟩
 replace h := hI_10 k h hb_13
 refine hw_seq (hw_region (hl_v (v_lss rfl rfl) rfl (hl_nil (thenQ_n (hw_seq (hw_cond rfl (fun hc_14 => ?_) (fun hc_14 => ?_)))))))
 ·replace h := ite_t h hc_14
  refine hw_skip (thenQ_n (hw_seq (hw_block (hw_seq (hw_region (hl_v (v_move rfl) rfl (hl_v (v_assign rfl) rfl (hl_nil (thenQ_n (hw_seq (hw_region (hl_v (v_move rfl) rfl (hl_v (v_move rfl) rfl (hl_v (v_move rfl) rfl (hl_v (v_ixL Try.underlying45 Try.sizeOf91 rfl rfl (Rd.sl hr_2 (Own.tails [_] hO)) (by exact ⟨Int.natCast_nonneg _, of_decide_eq_true hc_14⟩)) rfl (hl_v (v_loadFl Try.isAgg91 Try.sizeOf91 rfl (Rd.sl hr_2 (Own.tails [_] hO)) rfl (by exact ⟨Int.natCast_nonneg _, of_decide_eq_true hc_14⟩)) rfl (hl_h (h_callv (fs := []) (cs := cs_4) hg_5 rfl (evs_cons rfl evs_nil) (hp_6 [_] (s.getD k default) hO)) rfl ?_)))))))))))))))))
  rintro _ H_15 ⟨Z_16, _, rfl, hO⟩
  refine hl_nil (thenQ_n (hw_cond rfl (fun hc_18 => ?_) (fun hc_18 => ?_)))
  ·replace h := ite_t h hc_18
   refine hw_seq (hw_region (hl_v (v_move rfl) rfl (hl_v (v_assign rfl) rfl (hl_nil (thenQ_n (hw_sub _ (a_c 4 rfl a_n) (hw_ret (blockQ_r (thenQ_r (thenQ_r (blockQ_r (thenQ_r (ret_i _ (ra_t rfl ra_nil) ?_)))))))))))))
   exact ⟨_, (k : Int), (hO.inz 0 rfl), h, rfl, (Own.sel (Ls := [inZ Z]) (L := L) [] rfl hO)⟩
  ·replace h := ite_f h hc_18
   refine hw_skip (blockQ_n (thenQ_n (hw_region (hl_v (v_add rfl rfl (by have hq := of_decide_eq_true hc_14; have hm := hln_7; constructor <;> omega)) rfl (hl_v (v_move rfl) rfl (hl_nil (thenQ_n ?_)))))))
   exact ⟨_, _, (a_c 0 rfl (a_c 1 rfl (a_c 7 rfl (a_c 8 rfl a_n)))), ⟨k + 1, _, rfl, rfl, h, (by have hq := of_decide_eq_true hc_14; omega), hO⟩, (by have hq := of_decide_eq_true hc_14; omega)⟩
 ·replace h := ite_f h hc_14
  refine hw_exit (thenQ_e (thenQ_e (blockQ_hit (thenQ_n (hw_seq (hw_region (hl_v (v_assign rfl) rfl (hl_nil (thenQ_n (hw_ret (ret_i _ (ra_t rfl ra_nil) ?_)))))))))))
  exact ⟨_, (-1), (hO.inz 0 rfl), h, rfl, (Own.sel (Ls := [inZ Z]) (L := L) [] rfl hO)⟩
theorem indexTip_spec {a0 : List GTip} {a1 : (GTip → Bool)} {g_3 : FuncId} {cs_4 : List Value} {v_1 : Value} {L : List As} {H : Heap} {Z : Nat → Prop} (hO : Own H Z (L)) (hr_2 : Rd fGTip.rep L v_1 a0) (hg_5 : ∀ args w, (callFunc g_3 args).run Try.prog w = .ok (.enter g_3 args) w) (hp_6 : ∀ (Ls : List As) (q0 : GTip)  {H : Heap} {Z : Nat → Prop}, Own H Z (Ls ++ L) → HC Try.prog g_3 ([] ++ [.agg (fGTip.enc q0).toArray] ++ cs_4) H (fun v H' => ∃ Z' : Nat → Prop, (∀ b, Z b → Z' b) ∧ v = .bool (a1 q0) ∧ Own H' Z' (Ls ++ L))) : HC Try.prog 98 [v_1, .func (.func g_3) #[] cs_4.toArray] H (fun v H' => ∃ (Z' : Nat → Prop) , (∀ b, Z b → Z' b) ∧ v = .int .i64 (idxF a1 a0) ∧ Own H' Z' (L)) := by
  refine (indexTip_ok (s := a0) (f := a1) (@indexTip_wp a0 a1) hO hr_2 hg_5 hp_6).mono ?_
  rintro v H' ⟨Z', r0, hz, hq, hv, hO'⟩
  obtain rfl := hq
  exact ⟨Z', hz, hv, hO'⟩

theorem containsTip_ok {s : List GTip} {f : (GTip → Bool)} {g_3 : FuncId} {cs_4 : List Value} {v_1 : Value} {Q : Bool → Prop} {H : Heap} {Z : Nat → Prop} {L : List As} (h : wp_containsTip s f Q) (hO : Own H Z (L)) (hr_2 : Rd fGTip.rep L v_1 s) (hg_5 : ∀ args w, (callFunc g_3 args).run Try.prog w = .ok (.enter g_3 args) w) (hp_6 : ∀ (Ls : List As) (q0 : GTip)  {H : Heap} {Z : Nat → Prop}, Own H Z (Ls ++ L) → HC Try.prog g_3 ([] ++ [.agg (fGTip.enc q0).toArray] ++ cs_4) H (fun v H' => ∃ Z' : Nat → Prop, (∀ b, Z b → Z' b) ∧ v = .bool (f q0) ∧ Own H' Z' (Ls ++ L))) : HC Try.prog 69 [v_1, .func (.func g_3) #[] cs_4.toArray] H (fun v H' => ∃ (Z' : Nat → Prop) (r0 : Bool) , (∀ b, Z b → Z' b) ∧ Q r0 ∧ v = .bool r0 ∧ Own H' Z' (L)) := by
 replace hO := hO.inZ
 unfold wp_containsTip at h
 refine hc_of_hw (N := 9) (rs := [(.tmp 4)]) Try.func69 rfl rfl rfl rfl (hw_seq (hw_region (hl_v (v_assign rfl) rfl (hl_nil (thenQ_n (hw_seq (hw_region (hl_v (v_move rfl) rfl (hl_v (v_move rfl) rfl (hl_h (h_call Try.call98 (evs_cons rfl (evs_cons rfl evs_nil)) (indexTip_spec (a0 := s) hO (Rd.tails [_] hr_2) hg_5 (fun Ls => by have hq := hp_6 (Ls ++ [inZ Z]); rw [List.append_assoc] at hq; exact hq))) rfl ?_))))))))))
 rintro _ H_7 ⟨Z_8, _, rfl, hO⟩
 refine hl_v (v_geq rfl rfl) rfl (hl_v (v_assign rfl) rfl (hl_nil (thenQ_n (hw_ret (ret_i _ (ra_t rfl ra_nil) ?_)))))
 exact ⟨_, decide (0 ≤ idxF f s), (hO.inz 0 rfl), h, rfl, (Own.sel (Ls := [inZ Z]) (L := L) [] rfl hO)⟩
theorem containsTip_spec {a0 : List GTip} {a1 : (GTip → Bool)} {g_3 : FuncId} {cs_4 : List Value} {v_1 : Value} {L : List As} {H : Heap} {Z : Nat → Prop} (hO : Own H Z (L)) (hr_2 : Rd fGTip.rep L v_1 a0) (hg_5 : ∀ args w, (callFunc g_3 args).run Try.prog w = .ok (.enter g_3 args) w) (hp_6 : ∀ (Ls : List As) (q0 : GTip)  {H : Heap} {Z : Nat → Prop}, Own H Z (Ls ++ L) → HC Try.prog g_3 ([] ++ [.agg (fGTip.enc q0).toArray] ++ cs_4) H (fun v H' => ∃ Z' : Nat → Prop, (∀ b, Z b → Z' b) ∧ v = .bool (a1 q0) ∧ Own H' Z' (Ls ++ L))) : HC Try.prog 69 [v_1, .func (.func g_3) #[] cs_4.toArray] H (fun v H' => ∃ (Z' : Nat → Prop) , (∀ b, Z b → Z' b) ∧ v = .bool (a0.any a1) ∧ Own H' Z' (L)) := by
  refine (containsTip_ok (s := a0) (f := a1) (@containsTip_wp a0 a1) hO hr_2 hg_5 hp_6).mono ?_
  rintro v H' ⟨Z', r0, hz, hq, hv, hO'⟩
  obtain rfl := hq
  exact ⟨Z', hz, hv, hO'⟩

theorem fCheckP_ok {t : GFst} {v_1 : Value} {v_3 : Value} {v_5 : Value} {Q : Int → Prop} {H : Heap} {Z : Nat → Prop} {L : List As} (h : wp_fCheckP t Q) (hO : Own H Z (L)) (hf_2 : Fz fGTip.rep L v_1 t.Starts) (hf_4 : Fz fGTip.rep L v_3 t.Ends) (hf_6 : Fz fGArc.rep L v_5 t.Arcs) : HC Try.prog 30 [.agg [.int .i64 t.States, v_1, v_3, v_5].toArray] H (fun v H' => ∃ (Z' : Nat → Prop) (r0 : Int) , (∀ b, Z b → Z' b) ∧ Q r0 ∧ v = .int .i64 r0 ∧ Own H' Z' (L)) := by
 replace hO := hO.inZ
 replace hO := Fz.items [_] hf_2 hO
 replace hO := Fz.items [_, _] hf_4 hO
 replace hO := Fz.items [_, _, _] hf_6 hO
 unfold wp_fCheckP at h
 refine hc_of_hw (N := 79) (rs := [(.tmp 2)]) Try.func30 rfl rfl rfl rfl (hw_seq (hw_region (hl_h (o_box (cs := [.int .i64 t.States, v_1, v_3, v_5]) hO rfl rfl) rfl ?_)))
 rintro _ H_7 ⟨b_8, rfl, hO⟩
 refine hl_v (v_assign rfl) rfl (hl_nil (thenQ_n (hw_seq (hw_region (hl_v (v_makeFunc (us := []) (vs := [_]) rfl rfl) rfl (hl_h (o_alloc (cs := [.nilFunc]) hO Try.zeroValue71 rfl) rfl ?_))))))
 rintro _ H_9 ⟨b_10, rfl, hO⟩
 refine hl_s (o_store1 hO 0 rfl Try.sizeOf71 rfl rfl rfl rfl) ?_
 rintro _ H_11 hO
 refine hl_nil (thenQ_n (hw_seq (hw_region (hl_v (v_makeFunc (us := []) (vs := [_]) rfl rfl) rfl (hl_v (v_assign rfl) rfl (hl_nil (thenQ_n (hw_seq (hw_block (hw_seq (hw_region (hl_v (v_fieldA Try.underlying48 rfl Try.sizeOf3 rfl) rfl (hl_v (v_load1 Try.isAgg3 rfl (Blk.cell (hO.box 1 rfl) rfl)) rfl (hl_v (v_lss rfl rfl) rfl (hl_v (v_move rfl) rfl (hl_g rfl rfl (fun hg => (v_fieldA Try.underlying48 rfl Try.sizeOf3 rfl)) rfl (hl_g rfl rfl (fun hg => (v_load1 Try.isAgg3 (gv_ok rfl hg) (Blk.cell (hO.box 1 rfl) rfl))) rfl (hl_g rfl rfl (fun hg => (v_gtr (gv_ok rfl hg) rfl)) rfl (hl_v (v_or rfl rfl) rfl (hl_v (v_move rfl) rfl (hl_g rfl rfl (fun hg => (v_fieldA Try.underlying48 rfl Try.sizeOf46 rfl)) rfl (hl_g rfl rfl (fun hg => (v_load1 Try.isAgg46 (gv_ok rfl hg) (Blk.cell (hO.box 1 rfl) rfl))) rfl ?_))))))))))))))))))))))
 have hln_12 := Sl.cap (hO.fsl 2 rfl)
 refine hl_g rfl rfl (fun hg => (v_lenL rfl Try.underlying46 (gv_ok rfl hg) (hO.fsl 2 rfl))) rfl (hl_g rfl rfl (fun hg => (v_gtr (gv_ok rfl hg) rfl)) rfl (hl_v (v_or rfl rfl) rfl (hl_v (v_move rfl) rfl (hl_g rfl rfl (fun hg => (v_fieldA Try.underlying48 rfl Try.sizeOf45 rfl)) rfl (hl_g rfl rfl (fun hg => (v_load1 Try.isAgg45 (gv_ok rfl hg) (Blk.cell (hO.box 1 rfl) rfl))) rfl ?_)))))
 have hln_13 := Sl.cap (hO.fsl 4 rfl)
 refine hl_g rfl rfl (fun hg => (v_lenL rfl Try.underlying45 (gv_ok rfl hg) (hO.fsl 4 rfl))) rfl (hl_g rfl rfl (fun hg => (v_gtr (gv_ok rfl hg) rfl)) rfl (hl_v (v_or rfl rfl) rfl (hl_v (v_move rfl) rfl (hl_g rfl rfl (fun hg => (v_fieldA Try.underlying48 rfl Try.sizeOf45 rfl)) rfl (hl_g rfl rfl (fun hg => (v_load1 Try.isAgg45 (gv_ok rfl hg) (Blk.cell (hO.box 1 rfl) rfl))) rfl ?_)))))
 have hln_14 := Sl.cap (hO.fsl 3 rfl)
 refine hl_g rfl rfl (fun hg => (v_lenL rfl Try.underlying45 (gv_ok rfl hg) (hO.fsl 3 rfl))) rfl (hl_g rfl rfl (fun hg => (v_gtr (gv_ok rfl hg) rfl)) rfl (hl_v (v_or rfl rfl) rfl (hl_v (v_assign rfl) rfl (hl_nil (thenQ_n (hw_sub _ (a_c 1 rfl (a_c 3 rfl (a_c 4 rfl (a_c 9 rfl a_n)))) (hw_cond rfl (fun hc_15 => ?_) (fun hc_15 => ?_))))))))
 ·replace h := ite_t h hc_15
  refine hw_seq (hw_region (hl_v (v_assign rfl) rfl (hl_nil (thenQ_n (hw_ret (blockQ_r (thenQ_r (ret_i _ (ra_t rfl ra_nil) ?_))))))))
  exact ⟨_, 1, (hO.inz 5 rfl), h, rfl, (Own.sel (Ls := [box b_10 [.func (.func 67) #[] #[ptr b_8 0]] 71, box b_8 [.int .i64 t.States, v_1, v_3, v_5] 48, fz fGArc.rep v_5 t.Arcs, fz fGTip.rep v_3 t.Ends, fz fGTip.rep v_1 t.Starts, inZ Z]) (L := L) [] rfl hO)⟩
 ·replace h := ite_f h hc_15
  refine hw_seq (hw_region (hl_v (v_fieldA Try.underlying48 rfl Try.sizeOf45 rfl) rfl (hl_v (v_load1 Try.isAgg45 rfl (Blk.cell (hO.box 1 rfl) rfl)) rfl (hl_v (v_move rfl) rfl (hl_h (h_call Try.call69 (evs_cons rfl (evs_cons rfl evs_nil)) (containsTip_spec (a0 := t.Starts) hO (Rd.of_fz (i := 4) rfl) Try.call68 (fun Ls q0 H Z hO => HC.mono (fCheck2_spec (a0 := q0) (a1 := t) hO (Fz.tails Ls (Fz.of (i := 4) rfl)) (Fz.tails Ls (Fz.of (i := 3) rfl)) (Fz.tails Ls (Fz.of (i := 2) rfl)) (Bx.tails Ls (Bx.of (i := 1) rfl)) (Bx.tails Ls (Bx.of (i := 0) rfl))) (fun v H' h => h)))) rfl ?_)))))
  rintro _ H_16 ⟨Z_17, _, rfl, hO⟩
  refine hl_v (v_move rfl) rfl (hl_g rfl rfl (fun hg => (v_fieldA Try.underlying48 rfl Try.sizeOf45 rfl)) rfl (hl_g rfl rfl (fun hg => (v_load1 Try.isAgg45 (gv_ok rfl hg) (Blk.cell (hO.box 1 rfl) rfl))) rfl (hl_g rfl rfl (fun hg => (v_move rfl)) rfl (hl_gc (v := .bool (t.Ends.any (fun q0 => fTipBad t q0))) (R := fun H' => ∃ Z' : Nat → Prop, Own H' Z' (box b_10 [.func (.func 67) #[] #[ptr b_8 0]] 71 :: box b_8 [.int .i64 t.States, v_1, v_3, v_5] 48 :: fz fGArc.rep v_5 t.Arcs :: fz fGTip.rep v_3 t.Ends :: fz fGTip.rep v_1 t.Starts :: inZ Z :: L)) rfl rfl (fun hg => OpH.mono (h_call Try.call69 (evs_cons (gv_ok rfl hg) (evs_cons (gv_ok rfl hg) evs_nil)) (containsTip_spec (a0 := t.Ends) hO (Rd.of_fz (i := 3) rfl) Try.call68 (fun Ls q0 H Z hO => HC.mono (fCheck2_spec (a0 := q0) (a1 := t) hO (Fz.tails Ls (Fz.of (i := 4) rfl)) (Fz.tails Ls (Fz.of (i := 3) rfl)) (Fz.tails Ls (Fz.of (i := 2) rfl)) (Bx.tails Ls (Bx.of (i := 1) rfl)) (Bx.tails Ls (Bx.of (i := 0) rfl))) (fun v H' h => h)))) (g_c)) ⟨_, hO⟩ rfl ?_))))
  rintro H_19 ⟨Z_20, hO⟩
  refine hl_v (v_or rfl rfl) rfl (hl_v (v_assign rfl) rfl (hl_nil (thenQ_n (hw_sub _ (a_c 1 rfl (a_c 3 rfl (a_c 36 rfl a_n))) (hw_cond rfl (fun hc_22 => ?_) (fun hc_22 => ?_))))))
  ·replace h := ite_t h hc_22
   refine hw_seq (hw_region (hl_v (v_assign rfl) rfl (hl_nil (thenQ_n (hw_ret (blockQ_r (thenQ_r (ret_i _ (ra_t rfl ra_nil) ?_))))))))
   exact ⟨_, 1, (hO.inz 5 rfl), h, rfl, (Own.sel (Ls := [box b_10 [.func (.func 67) #[] #[ptr b_8 0]] 71, box b_8 [.int .i64 t.States, v_1, v_3, v_5] 48, fz fGArc.rep v_5 t.Arcs, fz fGTip.rep v_3 t.Ends, fz fGTip.rep v_1 t.Starts, inZ Z]) (L := L) [] rfl hO)⟩
  ·replace h := ite_f h hc_22
   refine hw_skip (blockQ_n (thenQ_n (hw_seq (hw_seq (hw_region (hl_v (v_fieldA Try.underlying48 rfl Try.sizeOf46 rfl) rfl (hl_v (v_load1 Try.isAgg46 rfl (Blk.cell (hO.box 1 rfl) rfl)) rfl (hl_v (v_lenL rfl Try.underlying46 rfl (hO.fsl 2 rfl)) rfl (hl_v (v_move rfl) rfl (hl_nil (thenQ_n (hw_block ?_))))))))))))
   obtain ⟨I_23, h, hI_25⟩ := h
   refine hw_lp (fun n' g' H' => ∃ (k : Nat) (Z' : Nat → Prop), n' = t.Arcs.length - k ∧ g' = [(3, ptr b_10 0), (48, v_5), (49, .int .i64 (t.Arcs.length : Int)), (50, .int .i64 (k : Int))] ∧ I_23 k ∧ k ≤ t.Arcs.length ∧ Own H' Z' (box b_10 [.func (.func 67) #[] #[ptr b_8 0]] 71 :: box b_8 [.int .i64 t.States, v_1, v_3, v_5] 48 :: fz fGArc.rep v_5 t.Arcs :: fz fGTip.rep v_3 t.Ends :: fz fGTip.rep v_1 t.Starts :: inZ Z :: L)) _ _ (a_c 3 rfl (a_c 48 rfl (a_c 49 rfl (a_c 50 rfl a_n)))) ⟨0, _, rfl, rfl, h, by omega, hO⟩ ?_
   rintro _ _ H_26 ⟨k, Z_27, rfl, rfl, h, hb_28, hO⟩
   replace h := hI_25 k h hb_28
   refine hw_seq (hw_region (hl_v (v_lss rfl rfl) rfl (hl_nil (thenQ_n (hw_seq (hw_cond rfl (fun hc_29 => ?_) (fun hc_29 => ?_)))))))
   ·replace h := ite_t h hc_29
    refine hw_skip (thenQ_n (hw_seq (hw_block (hw_seq (hw_region (hl_v (v_ixL Try.underlying46 Try.sizeOf50 rfl rfl (hO.fsl 2 rfl) (by exact ⟨Int.natCast_nonneg _, of_decide_eq_true hc_29⟩)) rfl (hl_v (v_loadFl Try.isAgg50 Try.sizeOf50 rfl (hO.fsl 2 rfl) rfl (by exact ⟨Int.natCast_nonneg _, of_decide_eq_true hc_29⟩)) rfl (hl_h (o_alloc (cs := (fGArc.enc (⟨(0 : Int), (0 : Int), BSet.zero, ([] : List UInt8), false⟩ : GArc))) hO Try.zeroValue50 rfl) rfl ?_))))))))
    rintro _ H_30 ⟨b_31, rfl, hO⟩
    refine hl_s (o_storeA (us := (fGArc.enc (t.Arcs.getD k default))) hO 0 rfl Try.sizeOf50 rfl rfl rfl rfl (by intro u hu; exact (fGArc).one _ u hu)) ?_
    rintro _ H_32 hO
    refine hl_nil (thenQ_n (hw_seq (hw_region (hl_v (v_load1 Try.isAgg71 rfl (Blk.cell (hO.box 1 rfl) rfl)) rfl (hl_v (v_fieldA Try.underlying50 rfl Try.sizeOf3 rfl) rfl (hl_v (v_load1 Try.isAgg3 rfl (Blk.cell (hO.box 0 rfl) rfl)) rfl (hl_v (v_callv (fs := []) (cs := [ptr b_8 0]) Try.call67 rfl (evs_cons rfl evs_nil) (fCheck1_spec (a0 := (t.Arcs.getD k default).From) (a1 := t) hO (Fz.of (i := 5) rfl) (Fz.of (i := 4) rfl) (Fz.of (i := 3) rfl) (Bx.of (i := 2) rfl))) rfl (hl_v (v_not rfl) rfl (hl_v (v_move rfl) rfl (hl_g rfl rfl (fun hg => (v_load1 Try.isAgg71 rfl (Blk.cell (hO.box 1 rfl) rfl))) rfl (hl_g rfl rfl (fun hg => (v_fieldA Try.underlying50 rfl Try.sizeOf3 rfl)) rfl (hl_g rfl rfl (fun hg => (v_load1 Try.isAgg3 (gv_ok rfl hg) (Blk.cell (hO.box 0 rfl) rfl))) rfl (hl_g rfl rfl (fun hg => (v_callv (fs := []) (cs := [ptr b_8 0]) Try.call67 (gv_ok rfl hg) (evs_cons (gv_ok rfl hg) evs_nil) (fCheck1_spec (a0 := (t.Arcs.getD k default).To) (a1 := t) hO (Fz.of (i := 5) rfl) (Fz.of (i := 4) rfl) (Fz.of (i := 3) rfl) (Bx.of (i := 2) rfl)))) rfl (hl_g rfl rfl (fun hg => (v_not (gv_ok rfl hg))) rfl (hl_v (v_or rfl rfl) rfl (hl_v (v_move rfl) rfl (hl_g rfl rfl (fun hg => (v_fieldA Try.underlying50 rfl Try.sizeOf34 rfl)) rfl (hl_g rfl rfl (fun hg => (v_loadA (cs := (sw ((t.Arcs.getD k default).Set))) Try.isAgg34 Try.sizeOf34 (gv_ok rfl hg) (Blk.sub (n := 4) (hO.box 0 rfl) rfl) rfl)) rfl (hl_g rfl rfl (fun hg => (v_buildS0 Try.underlying34 Try.zeroValue34 Try.sizeOf32)) rfl (hl_g rfl rfl (fun hg => (v_eqlSet Try.underlying34 Try.underlying32 Try.sizeOf32 (by kernel_rfl) (gv_ok rfl hg) (gv_ok rfl hg))) rfl ?_))))))))))))))))))))
    refine hl_v (v_or rfl rfl) rfl (hl_v (v_move rfl) rfl (hl_g rfl rfl (fun hg => (v_fieldA Try.underlying50 rfl Try.sizeOf9 rfl)) rfl (hl_g rfl rfl (fun hg => (v_load1 Try.isAgg9 (gv_ok rfl hg) (Blk.cell (hO.box 0 rfl) rfl))) rfl (hl_g rfl rfl (fun hg => (v_lenS rfl Try.underlying9 (gv_ok rfl hg))) rfl (hl_g rfl rfl (fun hg => (v_gtr (gv_ok rfl hg) rfl)) rfl (hl_v (v_or rfl rfl) rfl (hl_nil (thenQ_n (hw_sub _ (a_c 3 rfl (a_c 48 rfl (a_c 49 rfl (a_c 50 rfl (a_c 77 rfl a_n))))) (hw_cond rfl (fun hc_33 => ?_) (fun hc_33 => ?_)))))))))))
    ·replace h := ite_t h hc_33
     refine hw_seq (hw_region (hl_v (v_assign rfl) rfl (hl_nil (thenQ_n (hw_ret (blockQ_r (thenQ_r (thenQ_r (blockQ_r (thenQ_r (ret_i _ (ra_t rfl ra_nil) ?_)))))))))))
     exact ⟨_, 1, (hO.inz 6 rfl), h, rfl, (Own.sel (Ls := [box b_31 (fGArc.enc (t.Arcs.getD k default)) 50, box b_10 [.func (.func 67) #[] #[ptr b_8 0]] 71, box b_8 [.int .i64 t.States, v_1, v_3, v_5] 48, fz fGArc.rep v_5 t.Arcs, fz fGTip.rep v_3 t.Ends, fz fGTip.rep v_1 t.Starts, inZ Z]) (L := L) [] rfl hO)⟩
    ·replace h := ite_f h hc_33
     refine hw_skip (blockQ_n (thenQ_n (hw_region (hl_v (v_add rfl rfl (by have hq := of_decide_eq_true hc_29; have hm := hln_12; constructor <;> omega)) rfl (hl_v (v_move rfl) rfl (hl_nil (thenQ_n ?_)))))))
     exact ⟨_, _, (a_c 3 rfl (a_c 48 rfl (a_c 49 rfl (a_c 50 rfl a_n)))), ⟨k + 1, _, rfl, rfl, h, (by have hq := of_decide_eq_true hc_29; omega), (Own.sel (Ls := [box b_31 (fGArc.enc (t.Arcs.getD k default)) 50, box b_10 [.func (.func 67) #[] #[ptr b_8 0]] 71, box b_8 [.int .i64 t.States, v_1, v_3, v_5] 48, fz fGArc.rep v_5 t.Arcs, fz fGTip.rep v_3 t.Ends, fz fGTip.rep v_1 t.Starts, inZ Z]) (L := L) [1, 2, 3, 4, 5, 6] rfl hO)⟩, (by have hq := of_decide_eq_true hc_29; omega)⟩
   ·replace h := ite_f h hc_29
    refine hw_exit (thenQ_e (thenQ_e (blockQ_hit (thenQ_n (hw_seq (hw_region (hl_v (v_assign rfl) rfl (hl_nil (thenQ_n (hw_ret (ret_i _ (ra_t rfl ra_nil) ?_)))))))))))
    exact ⟨_, 0, (hO.inz 5 rfl), h, rfl, (Own.sel (Ls := [box b_10 [.func (.func 67) #[] #[ptr b_8 0]] 71, box b_8 [.int .i64 t.States, v_1, v_3, v_5] 48, fz fGArc.rep v_5 t.Arcs, fz fGTip.rep v_3 t.Ends, fz fGTip.rep v_1 t.Starts, inZ Z]) (L := L) [] rfl hO)⟩
theorem fCheckP_spec {a0 : GFst} {v_1 : Value} {v_3 : Value} {v_5 : Value} {L : List As} {H : Heap} {Z : Nat → Prop} (hO : Own H Z (L)) (hf_2 : Fz fGTip.rep L v_1 a0.Starts) (hf_4 : Fz fGTip.rep L v_3 a0.Ends) (hf_6 : Fz fGArc.rep L v_5 a0.Arcs) : HC Try.prog 30 [.agg [.int .i64 a0.States, v_1, v_3, v_5].toArray] H (fun v H' => ∃ (Z' : Nat → Prop) , (∀ b, Z b → Z' b) ∧ v = .int .i64 (fCheck a0) ∧ Own H' Z' (L)) := by
  refine (fCheckP_ok (t := a0) (@fCheckP_wp a0) hO hf_2 hf_4 hf_6).mono ?_
  rintro v H' ⟨Z', r0, hz, hq, hv, hO'⟩
  obtain rfl := hq
  exact ⟨Z', hz, hv, hO'⟩

theorem fStepP_ok {t : GFst} {xat : List (GTip × Bool)} {b : UInt8} {v_1 : Value} {v_3 : Value} {v_5 : Value} {b_7 : Nat} {Q : (List (GTip × Bool)) → Prop} {H : Heap} {Z : Nat → Prop} {L : List As} (h : wp_fStepP t xat b Q) (hO : Own H Z (tbl (aggOf fGTip) Value.bool b_7 xat :: L)) (hf_2 : Fz fGTip.rep L v_1 t.Starts) (hf_4 : Fz fGTip.rep L v_3 t.Ends) (hf_6 : Fz fGArc.rep L v_5 t.Arcs) : HC Try.prog 59 [.agg [.int .i64 t.States, v_1, v_3, v_5].toArray, .map (some b_7), .int .u8 (b.toNat : Int)] H (fun v H' => ∃ (Z' : Nat → Prop) (r0 : List (GTip × Bool)) (b_8 : Nat), (∀ b, Z b → Z' b) ∧ Q r0 ∧ v = .map (some b_8) ∧ Own H' Z' (tbl (aggOf fGTip) Value.bool b_8 r0 :: L)) := by
 replace hO := hO.inZ
 replace hO := Fz.items [_, _] hf_2 hO
 replace hO := Fz.items [_, _, _] hf_4 hO
 replace hO := Fz.items [_, _, _, _] hf_6 hO
 unfold wp_fStepP at h
 refine hc_of_hw (N := 57) (rs := [(.tmp 6)]) Try.func59 rfl rfl rfl rfl (hw_seq (hw_region (hl_h (o_box (cs := [.int .i64 t.States, v_1, v_3, v_5]) hO rfl rfl) rfl ?_)))
 rintro _ H_9 ⟨b_10, rfl, hO⟩
 refine hl_v (v_assign rfl) rfl (hl_nil (thenQ_n (hw_seq (hw_region (hl_h (o_makeMap (ke := (aggOf fGTip)) (ve := Value.bool) hO) rfl ?_)))))
 rintro _ H_11 ⟨b_12, rfl, hO⟩
 refine hl_v (v_assign rfl) rfl (hl_nil (thenQ_n (hw_seq (hw_seq (hw_region (hl_v (v_move rfl) rfl ?_))))))
 obtain ⟨es_15, ck_16, he_17, hB_18, hO⟩ := hO.tblE (i := 6) rfl
 refine hl_h (o_rangeL hO (hO.teq 6 rfl) he_17 hB_18 Try.underlying93 rfl) rfl ?_
 rintro _ H_13 ⟨b_14, rfl, hO⟩
 refine hl_nil (thenQ_n (hw_block ?_))
 obtain ⟨I_20, h, hI_22⟩ := h
 refine hw_lp (fun n' g' H' => ∃ (next : List (GTip × Bool)) (R : List (GTip × Bool)) (b_19 : Nat) (Z' : Nat → Prop), n' = R.length ∧ g' = [(2, .int .u8 (b.toNat : Int)), (3, ptr b_10 0), (7, .map (some b_19)), (14, ptr b_14 0)] ∧ I_20 next R ∧ Own H' Z' (itl (aggOf fGTip) Value.bool b_14 b_7 es_15 ck_16 R none :: tbl (aggOf fGTip) Value.bool b_19 next :: box b_10 [.int .i64 t.States, v_1, v_3, v_5] 48 :: fz fGArc.rep v_5 t.Arcs :: fz fGTip.rep v_3 t.Ends :: fz fGTip.rep v_1 t.Starts :: inZ Z :: tblE b_7 es_15 ck_16 :: L)) _ _ (a_c 2 rfl (a_c 3 rfl (a_c 7 rfl (a_c 14 rfl a_n)))) ⟨[], xat, b_12, _, rfl, rfl, h, hO⟩ ?_
 rintro _ _ H_23 ⟨next, R, b_19, Z_24, rfl, rfl, h, hO⟩
 replace h := hI_22 next R h
 refine hw_seq (hw_region (hl_h (o_nextL hO (i := 0) rfl (hO.teq 7 rfl) hB_18 rfl) rfl ?_))
 rintro _ H_26 (⟨hR_27, rfl, hO⟩ | ⟨j_28, hj_29, rfl, hO⟩)
 ·replace h := h.1 hR_27
  refine hl_v (v_extract rfl rfl) rfl (hl_nil (thenQ_n (hw_seq (hw_cond_f rfl (hw_exit (thenQ_e (thenQ_e (blockQ_hit (thenQ_n (hw_seq (hw_region (hl_v (v_move rfl) rfl (hl_v (v_assign rfl) rfl (hl_nil (thenQ_n (hw_ret (ret_i _ (ra_t rfl ra_nil) ?_)))))))))))))))))
  exact ⟨_, next, b_19, (hO.inz 6 rfl), h, rfl, (Own.sel (Ls := [itl (aggOf fGTip) Value.bool b_14 b_7 es_15 ck_16 R none, tbl (aggOf fGTip) Value.bool b_19 next, box b_10 [.int .i64 t.States, v_1, v_3, v_5] 48, fz fGArc.rep v_5 t.Arcs, fz fGTip.rep v_3 t.Ends, fz fGTip.rep v_1 t.Starts, inZ Z, tblE b_7 es_15 ck_16]) (L := L) [1] rfl hO)⟩
 ·replace h := h.2 j_28 hj_29
  refine hl_v (v_extract rfl rfl) rfl (hl_nil (thenQ_n (hw_seq (hw_cond_t rfl (hw_skip (thenQ_n (hw_block (hw_seq (hw_region (hl_v (v_entryL hO (i := 0) rfl (hO.teq 7 rfl) hB_18 rfl) rfl (hl_v (v_extract rfl rfl) rfl (hl_h (o_alloc (cs := (fGTip.enc (⟨(0 : Int), ([] : List UInt8)⟩ : GTip))) hO Try.zeroValue91 rfl) rfl ?_))))))))))))
  rintro _ H_30 ⟨b_31, rfl, hO⟩
  refine hl_s (o_storeA (us := (fGTip.enc ((R.getD j_28 default).1))) hO 0 rfl Try.sizeOf91 rfl rfl rfl rfl (by intro u hu; exact (fGTip).one _ u hu)) ?_
  rintro _ H_32 hO
  refine hl_nil (thenQ_n (hw_seq (hw_region (hl_v (v_fieldA Try.underlying48 rfl Try.sizeOf46 rfl) rfl (hl_v (v_load1 Try.isAgg46 rfl (Blk.cell (hO.box 3 rfl) rfl)) rfl ?_)))))
  have hln_33 := Sl.cap (hO.fsl 4 rfl)
  refine hl_v (v_lenL rfl Try.underlying46 rfl (hO.fsl 4 rfl)) rfl (hl_v (v_move rfl) rfl (hl_nil (thenQ_n (hw_block ?_))))
  obtain ⟨I_35, h, hI_37⟩ := h
  refine hw_lp (fun n' g' H' => ∃ (next2 : List (GTip × Bool)) (k : Nat) (b_34 : Nat) (Z' : Nat → Prop), n' = t.Arcs.length - k ∧ g' = [(2, .int .u8 (b.toNat : Int)), (3, ptr b_10 0), (7, .map (some b_34)), (8, ptr b_31 0), (14, ptr b_14 0), (20, v_5), (21, .int .i64 (t.Arcs.length : Int)), (22, .int .i64 (k : Int))] ∧ I_35 next2 k ∧ k ≤ t.Arcs.length ∧ Own H' Z' (box b_31 (fGTip.enc ((R.getD j_28 default).1)) 91 :: itl (aggOf fGTip) Value.bool b_14 b_7 es_15 ck_16 (R.eraseIdx j_28) (some (R.getD j_28 default)) :: tbl (aggOf fGTip) Value.bool b_34 next2 :: box b_10 [.int .i64 t.States, v_1, v_3, v_5] 48 :: fz fGArc.rep v_5 t.Arcs :: fz fGTip.rep v_3 t.Ends :: fz fGTip.rep v_1 t.Starts :: inZ Z :: tblE b_7 es_15 ck_16 :: L)) _ _ (a_c 2 rfl (a_c 3 rfl (a_c 7 rfl (a_c 8 rfl (a_c 14 rfl (a_c 20 rfl (a_c 21 rfl (a_c 22 rfl a_n)))))))) ⟨next, 0, b_19, _, rfl, rfl, h, by omega, hO⟩ ?_
  rintro _ _ H_38 ⟨next2, k, b_34, Z_39, rfl, rfl, h, hb_40, hO⟩
  replace h := hI_37 next2 k h hb_40
  refine hw_seq (hw_region (hl_v (v_lss rfl rfl) rfl (hl_nil (thenQ_n (hw_seq (hw_cond rfl (fun hc_41 => ?_) (fun hc_41 => ?_)))))))
  ·replace h := ite_t h hc_41
   refine hw_skip (thenQ_n (hw_seq (hw_block (hw_seq (hw_region (hl_v (v_ixL Try.underlying46 Try.sizeOf50 rfl rfl (hO.fsl 4 rfl) (by exact ⟨Int.natCast_nonneg _, of_decide_eq_true hc_41⟩)) rfl (hl_v (v_loadFl Try.isAgg50 Try.sizeOf50 rfl (hO.fsl 4 rfl) rfl (by exact ⟨Int.natCast_nonneg _, of_decide_eq_true hc_41⟩)) rfl (hl_h (o_alloc (cs := (fGArc.enc (⟨(0 : Int), (0 : Int), BSet.zero, ([] : List UInt8), false⟩ : GArc))) hO Try.zeroValue50 rfl) rfl ?_))))))))
   rintro _ H_42 ⟨b_43, rfl, hO⟩
   refine hl_s (o_storeA (us := (fGArc.enc (t.Arcs.getD k default))) hO 0 rfl Try.sizeOf50 rfl rfl rfl rfl (by intro u hu; exact (fGArc).one _ u hu)) ?_
   rintro _ H_44 hO
   refine hl_nil (thenQ_n (hw_seq (hw_seq (hw_region (hl_v (v_fieldA Try.underlying50 rfl Try.sizeOf3 rfl) rfl (hl_v (v_load1 Try.isAgg3 rfl (Blk.cell (hO.box 0 rfl) rfl)) rfl (hl_v (v_fieldA Try.underlying91 rfl Try.sizeOf3 rfl) rfl (hl_v (v_load1 Try.isAgg3 rfl (Blk.cell (hO.box 1 rfl) rfl)) rfl (hl_v (v_neq rfl rfl) rfl (hl_v (v_move rfl) rfl (hl_g rfl rfl (fun hg => (v_fieldA Try.underlying50 rfl Try.sizeOf34 rfl)) rfl (hl_g rfl rfl (fun hg => (v_loadA (cs := (sw ((t.Arcs.getD k default).Set))) Try.isAgg34 Try.sizeOf34 (gv_ok rfl hg) (Blk.sub (n := 4) (hO.box 0 rfl) rfl) rfl)) rfl (hl_g rfl rfl (fun hg => (v_move rfl)) rfl (hl_gc (v := .bool (((t.Arcs.getD k default).Set).has b.toNat)) (R := fun H' => ∃ Z' : Nat → Prop, Own H' Z' (box b_43 (fGArc.enc (t.Arcs.getD k default)) 50 :: box b_31 (fGTip.enc ((R.getD j_28 default).1)) 91 :: itl (aggOf fGTip) Value.bool b_14 b_7 es_15 ck_16 (R.eraseIdx j_28) (some (R.getD j_28 default)) :: tbl (aggOf fGTip) Value.bool b_34 next2 :: box b_10 [.int .i64 t.States, v_1, v_3, v_5] 48 :: fz fGArc.rep v_5 t.Arcs :: fz fGTip.rep v_3 t.Ends :: fz fGTip.rep v_1 t.Starts :: inZ Z :: tblE b_7 es_15 ck_16 :: L)) rfl rfl (fun hg => OpH.mono (h_call Try.call16 (evs_cons (gv_ok rfl hg) (evs_cons (gv_ok rfl hg) evs_nil)) (setHas_spec (a0 := (t.Arcs.getD k default).Set) (a1 := b) hO)) (g_c)) ⟨_, hO⟩ rfl ?_))))))))))))))
   rintro H_45 ⟨Z_46, hO⟩
   refine hl_g rfl rfl (fun hg => (v_not (gv_ok rfl hg))) rfl (hl_v (v_or rfl rfl) rfl (hl_nil (thenQ_n (hw_sub _ (a_c 2 rfl (a_c 3 rfl (a_c 7 rfl (a_c 8 rfl (a_c 10 rfl (a_c 14 rfl (a_c 20 rfl (a_c 21 rfl (a_c 22 rfl (a_c 37 rfl a_n)))))))))) (hw_cond rfl (fun hc_48 => ?_) (fun hc_48 => ?_))))))
   ·replace h := ite_t h hc_48
    refine hw_exit (thenQ_e (blockQ_hit (thenQ_n (hw_region (hl_v (v_add rfl rfl (by have hq := of_decide_eq_true hc_41; have hm := hln_33; constructor <;> omega)) rfl (hl_v (v_move rfl) rfl (hl_nil (thenQ_n ?_))))))))
    exact ⟨_, _, (a_c 2 rfl (a_c 3 rfl (a_c 7 rfl (a_c 8 rfl (a_c 14 rfl (a_c 20 rfl (a_c 21 rfl (a_c 22 rfl a_n)))))))), ⟨next2, k + 1, b_34, _, rfl, rfl, h, (by have hq := of_decide_eq_true hc_41; omega), (Own.sel (Ls := [box b_43 (fGArc.enc (t.Arcs.getD k default)) 50, box b_31 (fGTip.enc ((R.getD j_28 default).1)) 91, itl (aggOf fGTip) Value.bool b_14 b_7 es_15 ck_16 (R.eraseIdx j_28) (some (R.getD j_28 default)), tbl (aggOf fGTip) Value.bool b_34 next2, box b_10 [.int .i64 t.States, v_1, v_3, v_5] 48, fz fGArc.rep v_5 t.Arcs, fz fGTip.rep v_3 t.Ends, fz fGTip.rep v_1 t.Starts, inZ Z, tblE b_7 es_15 ck_16]) (L := L) [1, 2, 3, 4, 5, 6, 7, 8, 9] rfl hO)⟩, (by have hq := of_decide_eq_true hc_41; omega)⟩
   ·replace h := ite_f h hc_48
    refine hw_skip (thenQ_n (hw_seq (hw_region (hl_v (v_fieldA Try.underlying91 rfl Try.sizeOf9 rfl) rfl (hl_v (v_load1 Try.isAgg9 rfl (Blk.cell (hO.box 1 rfl) rfl)) rfl (hl_v (v_fieldA Try.underlying50 rfl Try.sizeOf9 rfl) rfl (hl_v (v_load1 Try.isAgg9 rfl (Blk.cell (hO.box 0 rfl) rfl)) rfl ?_)))))))
    obtain ⟨hs_49, h⟩ := h
    refine hl_v (v_addS rfl rfl hs_49) rfl (hl_v (v_assign rfl) rfl (hl_nil (thenQ_n (hw_sub _ (a_c 2 rfl (a_c 3 rfl (a_c 7 rfl (a_c 8 rfl (a_c 10 rfl (a_c 11 rfl (a_c 14 rfl (a_c 20 rfl (a_c 21 rfl (a_c 22 rfl a_n)))))))))) ?_))))
    obtain ⟨K_50, h, hk_53⟩ := h
    refine hw_jn (fun g' H' => ∃ (s : List UInt8) (Z' : Nat → Prop), g' = [(2, .int .u8 (b.toNat : Int)), (3, ptr b_10 0), (7, .map (some b_34)), (8, ptr b_31 0), (10, ptr b_43 0), (11, str s), (14, ptr b_14 0), (20, v_5), (21, .int .i64 (t.Arcs.length : Int)), (22, .int .i64 (k : Int))] ∧ K_50 s ∧ Own H' Z' (box b_43 (fGArc.enc (t.Arcs.getD k default)) 50 :: box b_31 (fGTip.enc ((R.getD j_28 default).1)) 91 :: itl (aggOf fGTip) Value.bool b_14 b_7 es_15 ck_16 (R.eraseIdx j_28) (some (R.getD j_28 default)) :: tbl (aggOf fGTip) Value.bool b_34 next2 :: box b_10 [.int .i64 t.States, v_1, v_3, v_5] 48 :: fz fGArc.rep v_5 t.Arcs :: fz fGTip.rep v_3 t.Ends :: fz fGTip.rep v_1 t.Starts :: inZ Z :: tblE b_7 es_15 ck_16 :: L)) ?_ ?_
    ·refine hw_seq (hw_region (hl_v (v_fieldA Try.underlying50 rfl Try.sizeOf4 rfl) rfl (hl_v (v_load1 Try.isAgg4 rfl (Blk.cell (hO.box 0 rfl) rfl)) rfl (hl_nil (thenQ_n (hw_cond rfl (fun hc_54 => ?_) (fun hc_54 => ?_)))))))
     ·replace h := ite_t h hc_54
      refine hw_region (hl_v (v_move rfl) rfl (hl_v (v_move rfl) rfl (hl_h (o_lit (g := fByte) (l := [b]) (xs := [.tmp 46]) hO Try.underlying94 Try.sizeOf5 Try.zeroValue5 rfl (evs_cons rfl evs_nil) rfl rfl rfl rfl rfl) rfl ?_)))
      rintro v_56 H_55 hO
      refine hl_v (v_bytesStr Try.underlying94 Try.underlying5 Try.underlying9 rfl (hO.osl 0 rfl)) rfl ?_
      obtain ⟨hs_57, h⟩ := h
      refine hl_v (v_addS rfl rfl hs_57) rfl (hl_v (v_assign rfl) rfl (hl_nil (thenQ_n (⟨_, (a_c 2 rfl (a_c 3 rfl (a_c 7 rfl (a_c 8 rfl (a_c 10 rfl (a_c 11 rfl (a_c 14 rfl (a_c 20 rfl (a_c 21 rfl (a_c 22 rfl a_n)))))))))), ⟨((((R.getD j_28 default).1).Out ++ (t.Arcs.getD k default).Out) ++ [b]), _, rfl, h, (Own.sel (Ls := [own fByte 5 v_56 [b], box b_43 (fGArc.enc (t.Arcs.getD k default)) 50, box b_31 (fGTip.enc ((R.getD j_28 default).1)) 91, itl (aggOf fGTip) Value.bool b_14 b_7 es_15 ck_16 (R.eraseIdx j_28) (some (R.getD j_28 default)), tbl (aggOf fGTip) Value.bool b_34 next2, box b_10 [.int .i64 t.States, v_1, v_3, v_5] 48, fz fGArc.rep v_5 t.Arcs, fz fGTip.rep v_3 t.Ends, fz fGTip.rep v_1 t.Starts, inZ Z, tblE b_7 es_15 ck_16]) (L := L) [1, 2, 3, 4, 5, 6, 7, 8, 9, 10] rfl hO)⟩⟩))))
     ·replace h := ite_f h hc_54
      refine hw_skip (thenQ_n (⟨_, (a_c 2 rfl (a_c 3 rfl (a_c 7 rfl (a_c 8 rfl (a_c 10 rfl (a_c 11 rfl (a_c 14 rfl (a_c 20 rfl (a_c 21 rfl (a_c 22 rfl a_n)))))))))), ⟨(((R.getD j_28 default).1).Out ++ (t.Arcs.getD k default).Out), _, rfl, h, hO⟩⟩))
    ·rintro _ H_51 ⟨s, Z_52, rfl, h, hO⟩
     replace h := hk_53 s h
     refine hw_region (hl_v (v_move rfl) rfl (hl_v (v_fieldA Try.underlying50 rfl Try.sizeOf3 rfl) rfl (hl_v (v_load1 Try.isAgg3 rfl (Blk.cell (hO.box 0 rfl) rfl)) rfl (hl_v (v_move rfl) rfl (hl_v (v_buildF (cs := (fGTip.enc (⟨(t.Arcs.getD k default).To, s⟩ : GTip))) (xs := [.tmp 52, .tmp 53]) (is := [0, 1]) rfl (evs_cons rfl (evs_cons rfl evs_nil)) (fun w => by show _ = _; kernel_rfl)) rfl (hl_s (o_mapUpdate (k := (⟨(t.Arcs.getD k default).To, s⟩ : GTip)) (v := true) hO 3 rfl key_91_15 rfl Try.underlying93 rfl rfl rfl) ?_))))))
     rintro _ H_58 hO
     refine hl_nil (blockQ_n (thenQ_n (hw_region (hl_v (v_add rfl rfl (by have hq := of_decide_eq_true hc_41; have hm := hln_33; constructor <;> omega)) rfl (hl_v (v_move rfl) rfl (hl_nil (thenQ_n ?_)))))))
     exact ⟨_, _, (a_c 2 rfl (a_c 3 rfl (a_c 7 rfl (a_c 8 rfl (a_c 14 rfl (a_c 20 rfl (a_c 21 rfl (a_c 22 rfl a_n)))))))), ⟨(aput next2 (⟨(t.Arcs.getD k default).To, s⟩ : GTip) true), k + 1, b_34, _, rfl, rfl, h, (by have hq := of_decide_eq_true hc_41; omega), (Own.sel (Ls := [box b_43 (fGArc.enc (t.Arcs.getD k default)) 50, box b_31 (fGTip.enc ((R.getD j_28 default).1)) 91, itl (aggOf fGTip) Value.bool b_14 b_7 es_15 ck_16 (R.eraseIdx j_28) (some (R.getD j_28 default)), tbl (aggOf fGTip) Value.bool b_34 (aput next2 (⟨(t.Arcs.getD k default).To, s⟩ : GTip) true), box b_10 [.int .i64 t.States, v_1, v_3, v_5] 48, fz fGArc.rep v_5 t.Arcs, fz fGTip.rep v_3 t.Ends, fz fGTip.rep v_1 t.Starts, inZ Z, tblE b_7 es_15 ck_16]) (L := L) [1, 2, 3, 4, 5, 6, 7, 8, 9] rfl hO)⟩, (by have hq := of_decide_eq_true hc_41; omega)⟩
  ·replace h := ite_f h hc_41
   refine hw_exit (thenQ_e (thenQ_e (blockQ_hit (blockQ_n (thenQ_n ?_)))))
   replace hO := hO.itlN (i := 1) rfl
   exact ⟨_, _, (a_c 2 rfl (a_c 3 rfl (a_c 7 rfl (a_c 14 rfl a_n)))), ⟨next2, (R.eraseIdx j_28), b_34, _, rfl, rfl, h, (Own.sel (Ls := [box b_31 (fGTip.enc ((R.getD j_28 default).1)) 91, itl (aggOf fGTip) Value.bool b_14 b_7 es_15 ck_16 (R.eraseIdx j_28) none, tbl (aggOf fGTip) Value.bool b_34 next2, box b_10 [.int .i64 t.States, v_1, v_3, v_5] 48, fz fGArc.rep v_5 t.Arcs, fz fGTip.rep v_3 t.Ends, fz fGTip.rep v_1 t.Starts, inZ Z, tblE b_7 es_15 ck_16]) (L := L) [1, 2, 3, 4, 5, 6, 7, 8] rfl hO)⟩, (eraseIdx_lt hj_29)⟩
theorem fStepP_spec {a0 : GFst} {a1 : List (GTip × Bool)} {a2 : UInt8} {v_1 : Value} {v_3 : Value} {v_5 : Value} {b_7 : Nat} {L : List As} (hp : (∀ x ∈ a0.Arcs, x.Out.length ≤ 1024) ∧ ∀ p ∈ keys a1, p.Out.length ≤ 1000000000) {H : Heap} {Z : Nat → Prop} (hO : Own H Z (tbl (aggOf fGTip) Value.bool b_7 a1 :: L)) (hf_2 : Fz fGTip.rep L v_1 a0.Starts) (hf_4 : Fz fGTip.rep L v_3 a0.Ends) (hf_6 : Fz fGArc.rep L v_5 a0.Arcs) : HC Try.prog 59 [.agg [.int .i64 a0.States, v_1, v_3, v_5].toArray, .map (some b_7), .int .u8 (a2.toNat : Int)] H (fun v H' => ∃ (Z' : Nat → Prop) (r0 : List (GTip × Bool)) (b_8 : Nat), (∀ a2, Z a2 → Z' a2) ∧ KeysOf r0 (fRaw a0 (keys a1) a2) ∧ v = .map (some b_8) ∧ Own H' Z' (tbl (aggOf fGTip) Value.bool b_8 r0 :: L)) := by
  refine (fStepP_ok (t := a0) (xat := a1) (b := a2) (@fStepP_wp a0 a1 a2 hp) hO hf_2 hf_4 hf_6).mono ?_
  rintro v H' ⟨Z', r0, b_8, hz, hq, hv, hO'⟩
  exact ⟨Z', r0, b_8, hz, hq, hv, hO'⟩

theorem fOutsP_ok {t : GFst} {w : List UInt8} {v_1 : Value} {v_3 : Value} {v_5 : Value} {Q : (List (List UInt8)) → Int → Prop} {H : Heap} {Z : Nat → Prop} {L : List As} (h : wp_fOutsP t w Q) (hO : Own H Z (L)) (hf_2 : Fz fGTip.rep L v_1 t.Starts) (hf_4 : Fz fGTip.rep L v_3 t.Ends) (hf_6 : Fz fGArc.rep L v_5 t.Arcs) : HC Try.prog 27 [.agg [.int .i64 t.States, v_1, v_3, v_5].toArray, str w] H (fun v H' => ∃ (Z' : Nat → Prop) (r0 : List (List UInt8)) (r1 : Int) (v_7 : Value), (∀ b, Z b → Z' b) ∧ Q r0 r1 ∧ v = .tuple #[v_7, .int .i64 r1] ∧ Own H' Z' (own fStr 9 v_7 r0 :: L)) := by
 replace hO := hO.inZ
 replace hO := Fz.items [_] hf_2 hO
 replace hO := Fz.items [_, _] hf_4 hO
 replace hO := Fz.items [_, _, _] hf_6 hO
 unfold wp_fOutsP at h
 refine hc_of_hw (N := 82) (rs := [(.tmp 4), (.tmp 5)]) Try.func27 rfl rfl rfl rfl (hw_seq (hw_region (hl_h (o_box (cs := [.int .i64 t.States, v_1, v_3, v_5]) hO rfl rfl) rfl ?_)))
 rintro _ H_8 ⟨b_9, rfl, hO⟩
 refine hl_v (v_assign rfl) rfl (hl_v (v_assign rfl) rfl (hl_nil (thenQ_n (hw_seq (hw_seq (hw_region (hl_v (v_loadA Try.isAgg48 Try.sizeOf48 rfl (Blk.at0 (hO.box 0 rfl)) rfl) rfl (hl_h (h_call Try.call30 (evs_cons rfl evs_nil) (fCheckP_spec (a0 := t) hO (Fz.of (i := 3) rfl) (Fz.of (i := 2) rfl) (Fz.of (i := 1) rfl))) rfl ?_))))))))
 rintro _ H_10 ⟨Z_11, _, rfl, hO⟩
 refine hl_v (v_assign rfl) rfl (hl_nil (thenQ_n (hw_seq (hw_region (hl_v (v_move rfl) rfl (hl_v (v_neq rfl rfl) rfl (hl_nil (thenQ_n (hw_cond rfl (fun hc_13 => ?_) (fun hc_13 => ?_))))))))))
 ·replace h := ite_t h hc_13
  refine hw_seq (hw_region (hl_v (v_move rfl) rfl (hl_v (v_assign rfl) rfl (hl_v (v_assign rfl) rfl (hl_nil (thenQ_n (hw_ret (thenQ_r ?_))))))))
  replace hO := hO.nil fStr 9
  refine ret_i _ (ra_t rfl (ra_t rfl ra_nil)) ?_
  exact ⟨_, [], fCheck t, .slice none 0 0, (hO.inz 5 rfl), h, rfl, (Own.sel (Ls := [own fStr 9 (.slice none 0 0) [], box b_9 [.int .i64 t.States, v_1, v_3, v_5] 48, fz fGArc.rep v_5 t.Arcs, fz fGTip.rep v_3 t.Ends, fz fGTip.rep v_1 t.Starts, inZ Z]) (L := L) [0] rfl hO)⟩
 ·replace h := ite_f h hc_13
  refine hw_skip (thenQ_n (hw_seq (hw_seq (hw_region (hl_v (v_move rfl) rfl (hl_v (v_lenS rfl Try.underlying9 rfl) rfl (hl_v (v_gtr rfl rfl) rfl (hl_nil (thenQ_n (hw_cond rfl (fun hc_14 => ?_) (fun hc_14 => ?_)))))))))))
  ·replace h := ite_t h hc_14
   refine hw_seq (hw_region (hl_v (v_assign rfl) rfl (hl_v (v_assign rfl) rfl (hl_nil (thenQ_n (hw_sub _ (a_c 4 rfl (a_c 5 rfl a_n)) (hw_ret (thenQ_r ?_))))))))
   replace hO := hO.nil fStr 9
   refine ret_i _ (ra_t rfl (ra_t rfl ra_nil)) ?_
   exact ⟨_, [], 2, .slice none 0 0, (hO.inz 5 rfl), h, rfl, (Own.sel (Ls := [own fStr 9 (.slice none 0 0) [], box b_9 [.int .i64 t.States, v_1, v_3, v_5] 48, fz fGArc.rep v_5 t.Arcs, fz fGTip.rep v_3 t.Ends, fz fGTip.rep v_1 t.Starts, inZ Z]) (L := L) [0] rfl hO)⟩
  ·replace h := ite_f h hc_14
   refine hw_skip (thenQ_n (hw_seq (hw_region (hl_h (o_makeMap (ke := (aggOf fGTip)) (ve := Value.bool) hO) rfl ?_))))
   rintro _ H_15 ⟨b_16, rfl, hO⟩
   refine hl_v (v_assign rfl) rfl (hl_nil (thenQ_n (hw_sub _ (a_c 1 rfl (a_c 2 rfl (a_c 7 rfl a_n))) (hw_seq (hw_seq (hw_region (hl_v (v_fieldA Try.underlying48 rfl Try.sizeOf45 rfl) rfl (hl_v (v_load1 Try.isAgg45 rfl (Blk.cell (hO.box 1 rfl) rfl)) rfl ?_))))))))
   have hln_17 := Sl.cap (hO.fsl 4 rfl)
   refine hl_v (v_lenL rfl Try.underlying45 rfl (hO.fsl 4 rfl)) rfl (hl_v (v_move rfl) rfl (hl_nil (thenQ_n (hw_block ?_))))
   obtain ⟨I_18, h, hI_20⟩ := h
   refine hw_lp (fun n' g' H' => ∃ (xat : List (GTip × Bool)) (k : Nat) (Z' : Nat → Prop), n' = t.Starts.length - k ∧ g' = [(1, str w), (2, ptr b_9 0), (7, .map (some b_16)), (26, v_1), (27, .int .i64 (t.Starts.length : Int)), (28, .int .i64 (k : Int))] ∧ I_18 xat k ∧ k ≤ t.Starts.length ∧ Own H' Z' (tbl (aggOf fGTip) Value.bool b_16 xat :: box b_9 [.int .i64 t.States, v_1, v_3, v_5] 48 :: fz fGArc.rep v_5 t.Arcs :: fz fGTip.rep v_3 t.Ends :: fz fGTip.rep v_1 t.Starts :: inZ Z :: L)) _ _ (a_c 1 rfl (a_c 2 rfl (a_c 7 rfl (a_c 26 rfl (a_c 27 rfl (a_c 28 rfl a_n)))))) ⟨[], 0, _, rfl, rfl, h, by omega, hO⟩ ?_
   rintro _ _ H_21 ⟨xat, k, Z_22, rfl, rfl, h, hb_23, hO⟩
   replace h := hI_20 xat k h hb_23
   refine hw_seq (hw_region (hl_v (v_lss rfl rfl) rfl (hl_nil (thenQ_n (hw_seq (hw_cond rfl (fun hc_24 => ?_) (fun hc_24 => ?_)))))))
   ·replace h := ite_t h hc_24
    refine hw_skip (thenQ_n (hw_seq (hw_block (hw_seq (hw_region (hl_v (v_ixL Try.underlying45 Try.sizeOf91 rfl rfl (hO.fsl 4 rfl) (by exact ⟨Int.natCast_nonneg _, of_decide_eq_true hc_24⟩)) rfl (hl_v (v_loadFl Try.isAgg91 Try.sizeOf91 rfl (hO.fsl 4 rfl) rfl (by exact ⟨Int.natCast_nonneg _, of_decide_eq_true hc_24⟩)) rfl (hl_h (o_alloc (cs := (fGTip.enc (⟨(0 : Int), ([] : List UInt8)⟩ : GTip))) hO Try.zeroValue91 rfl) rfl ?_))))))))
    rintro _ H_25 ⟨b_26, rfl, hO⟩
    refine hl_s (o_storeA (us := (fGTip.enc (t.Starts.getD k default))) hO 0 rfl Try.sizeOf91 rfl rfl rfl rfl (by intro u hu; exact (fGTip).one _ u hu)) ?_
    rintro _ H_27 hO
    refine hl_nil (thenQ_n (hw_region (hl_v (v_move rfl) rfl (hl_v (v_loadA Try.isAgg91 Try.sizeOf91 rfl (Blk.at0 (hO.box 0 rfl)) rfl) rfl (hl_s (o_mapUpdate (k := (t.Starts.getD k default)) (v := true) hO 1 rfl key_91_15 rfl Try.underlying93 rfl rfl rfl) ?_)))))
    rintro _ H_28 hO
    refine hl_nil (blockQ_n (thenQ_n (hw_region (hl_v (v_add rfl rfl (by have hq := of_decide_eq_true hc_24; have hm := hln_17; constructor <;> omega)) rfl (hl_v (v_move rfl) rfl (hl_nil (thenQ_n ?_)))))))
    exact ⟨_, _, (a_c 1 rfl (a_c 2 rfl (a_c 7 rfl (a_c 26 rfl (a_c 27 rfl (a_c 28 rfl a_n)))))), ⟨(aput xat (t.Starts.getD k default) true), k + 1, _, rfl, rfl, h, (by have hq := of_decide_eq_true hc_24; omega), (Own.sel (Ls := [box b_26 (fGTip.enc (t.Starts.getD k default)) 91, tbl (aggOf fGTip) Value.bool b_16 (aput xat (t.Starts.getD k default) true), box b_9 [.int .i64 t.States, v_1, v_3, v_5] 48, fz fGArc.rep v_5 t.Arcs, fz fGTip.rep v_3 t.Ends, fz fGTip.rep v_1 t.Starts, inZ Z]) (L := L) [1, 2, 3, 4, 5, 6] rfl hO)⟩, (by have hq := of_decide_eq_true hc_24; omega)⟩
   ·replace h := ite_f h hc_24
    refine hw_exit (thenQ_e (thenQ_e (blockQ_hit (thenQ_n (hw_seq (hw_seq (hw_region (hl_v (v_move rfl) rfl ?_))))))))
    obtain ⟨hs_33, h⟩ := h
    refine hl_h (o_strBytes (l := w) hO Try.underlying9 Try.underlying94 Try.underlying5 rfl hs_33) rfl ?_
    rintro v_29 H_30 ⟨Z_31, _, hO⟩
    have hln_34 := Sl.cap (hO.fsl 0 rfl)
    refine hl_v (v_lenL rfl Try.underlying94 rfl (hO.fsl 0 rfl)) rfl (hl_v (v_move rfl) rfl (hl_nil (thenQ_n (hw_block ?_))))
    obtain ⟨I_36, h, hI_38⟩ := h
    refine hw_lp (fun n' g' H' => ∃ (xat2 : List (GTip × Bool)) (k2 : Nat) (b_35 : Nat) (Z' : Nat → Prop), n' = w.length - k2 ∧ g' = [(2, ptr b_9 0), (7, .map (some b_35)), (36, v_29), (37, .int .i64 (w.length : Int)), (38, .int .i64 (k2 : Int))] ∧ I_36 xat2 k2 ∧ k2 ≤ w.length ∧ Own H' Z' (fz fByte.rep v_29 w :: tbl (aggOf fGTip) Value.bool b_35 xat2 :: box b_9 [.int .i64 t.States, v_1, v_3, v_5] 48 :: fz fGArc.rep v_5 t.Arcs :: fz fGTip.rep v_3 t.Ends :: fz fGTip.rep v_1 t.Starts :: inZ Z :: L)) _ _ (a_c 2 rfl (a_c 7 rfl (a_c 36 rfl (a_c 37 rfl (a_c 38 rfl a_n))))) ⟨xat, 0, b_16, _, rfl, rfl, h, by omega, hO⟩ ?_
    rintro _ _ H_39 ⟨xat2, k2, b_35, Z_40, rfl, rfl, h, hb_41, hO⟩
    replace h := hI_38 xat2 k2 h hb_41
    refine hw_seq (hw_region (hl_v (v_lss rfl rfl) rfl (hl_nil (thenQ_n (hw_seq (hw_cond rfl (fun hc_42 => ?_) (fun hc_42 => ?_)))))))
    ·replace h := ite_t h hc_42
     refine hw_skip (thenQ_n (hw_seq (hw_block (hw_seq (hw_region (hl_v (v_ixL Try.underlying94 Try.sizeOf5 rfl rfl (hO.fsl 0 rfl) (by exact ⟨Int.natCast_nonneg _, of_decide_eq_true hc_42⟩)) rfl (hl_v (v_loadSc Try.isAgg5 rfl (hO.fsl 0 rfl) rfl (by exact ⟨Int.natCast_nonneg _, of_decide_eq_true hc_42⟩) rfl) rfl (hl_v (v_assign rfl) rfl (hl_nil (thenQ_n (hw_seq (hw_seq (hw_region (hl_v (v_move rfl) rfl (hl_v (v_lenM rfl Try.underlying93 rfl (hO.tbl 1 rfl)) rfl (hl_v (v_gtr rfl rfl) rfl (hl_nil (thenQ_n (hw_cond rfl (fun hc_43 => ?_) (fun hc_43 => ?_))))))))))))))))))))
     ·replace h := ite_t h hc_43
      refine hw_seq (hw_region (hl_v (v_assign rfl) rfl (hl_v (v_assign rfl) rfl (hl_nil (thenQ_n (hw_ret (thenQ_r (blockQ_r (thenQ_r (thenQ_r (blockQ_r (thenQ_r ?_))))))))))))
      replace hO := hO.nil fStr 9
      refine ret_i _ (ra_t rfl (ra_t rfl ra_nil)) ?_
      exact ⟨_, [], 2, .slice none 0 0, (hO.inz 7 rfl), h, rfl, (Own.sel (Ls := [own fStr 9 (.slice none 0 0) [], fz fByte.rep v_29 w, tbl (aggOf fGTip) Value.bool b_35 xat2, box b_9 [.int .i64 t.States, v_1, v_3, v_5] 48, fz fGArc.rep v_5 t.Arcs, fz fGTip.rep v_3 t.Ends, fz fGTip.rep v_1 t.Starts, inZ Z]) (L := L) [0] rfl hO)⟩
     ·replace h := ite_f h hc_43
      refine hw_skip (thenQ_n (hw_region (hl_v (v_loadA Try.isAgg48 Try.sizeOf48 rfl (Blk.at0 (hO.box 2 rfl)) rfl) rfl (hl_v (v_move rfl) rfl (hl_v (v_move rfl) rfl ?_)))))
      obtain ⟨hs_44, h⟩ := h
      refine hl_h (h_call Try.call59 (evs_cons rfl (evs_cons rfl (evs_cons rfl evs_nil))) (fStepP_spec (a0 := t) (a1 := xat2) (a2 := (w.getD k2 default)) (L := fz fByte.rep v_29 w :: box b_9 [.int .i64 t.States, v_1, v_3, v_5] 48 :: fz fGArc.rep v_5 t.Arcs :: fz fGTip.rep v_3 t.Ends :: fz fGTip.rep v_1 t.Starts :: inZ Z :: L) hs_44 (Own.sel (Ls := [fz fByte.rep v_29 w, tbl (aggOf fGTip) Value.bool b_35 xat2, box b_9 [.int .i64 t.States, v_1, v_3, v_5] 48, fz fGArc.rep v_5 t.Arcs, fz fGTip.rep v_3 t.Ends, fz fGTip.rep v_1 t.Starts, inZ Z]) (L := L) [1, 0, 2, 3, 4, 5, 6] rfl hO) (Fz.of (i := 4) rfl) (Fz.of (i := 3) rfl) (Fz.of (i := 2) rfl))) rfl ?_
      rintro _ H_47 ⟨Z_48, r_45, b_46, _, hq, rfl, hO⟩
      replace h := h r_45 hq
      refine hl_v (v_assign rfl) rfl (hl_nil (blockQ_n (thenQ_n (hw_region (hl_v (v_add rfl rfl (by have hq := of_decide_eq_true hc_42; have hm := hln_34; constructor <;> omega)) rfl (hl_v (v_move rfl) rfl (hl_nil (thenQ_n ?_))))))))
      exact ⟨_, _, (a_c 2 rfl (a_c 7 rfl (a_c 36 rfl (a_c 37 rfl (a_c 38 rfl a_n))))), ⟨r_45, k2 + 1, b_46, _, rfl, rfl, h, (by have hq := of_decide_eq_true hc_42; omega), (Own.sel (Ls := [tbl (aggOf fGTip) Value.bool b_46 r_45, fz fByte.rep v_29 w, box b_9 [.int .i64 t.States, v_1, v_3, v_5] 48, fz fGArc.rep v_5 t.Arcs, fz fGTip.rep v_3 t.Ends, fz fGTip.rep v_1 t.Starts, inZ Z]) (L := L) [1, 0, 2, 3, 4, 5, 6] rfl hO)⟩, (by have hq := of_decide_eq_true hc_42; omega)⟩
    ·replace h := ite_f h hc_42
     refine hw_exit (thenQ_e (thenQ_e (blockQ_hit (thenQ_n (hw_seq (hw_seq (hw_region (hl_v (v_move rfl) rfl (hl_v (v_lenM rfl Try.underlying93 rfl (hO.tbl 1 rfl)) rfl (hl_v (v_gtr rfl rfl) rfl (hl_nil (thenQ_n (hw_cond rfl (fun hc_50 => ?_) (fun hc_50 => ?_))))))))))))))
     ·replace h := ite_t h hc_50
      refine hw_seq (hw_region (hl_v (v_assign rfl) rfl (hl_v (v_assign rfl) rfl (hl_nil (thenQ_n (hw_ret (thenQ_r ?_)))))))
      replace hO := hO.nil fStr 9
      refine ret_i _ (ra_t rfl (ra_t rfl ra_nil)) ?_
      exact ⟨_, [], 2, .slice none 0 0, (hO.inz 7 rfl), h, rfl, (Own.sel (Ls := [own fStr 9 (.slice none 0 0) [], fz fByte.rep v_29 w, tbl (aggOf fGTip) Value.bool b_35 xat2, box b_9 [.int .i64 t.States, v_1, v_3, v_5] 48, fz fGArc.rep v_5 t.Arcs, fz fGTip.rep v_3 t.Ends, fz fGTip.rep v_1 t.Starts, inZ Z]) (L := L) [0] rfl hO)⟩
     ·replace h := ite_f h hc_50
      refine hw_skip (thenQ_n (hw_seq (hw_region (hl_v (v_assign rfl) rfl (hl_nil (thenQ_n (hw_seq (hw_seq (hw_region (hl_v (v_move rfl) rfl ?_))))))))))
      obtain ⟨es_53, ck_54, he_55, hB_56, hO⟩ := hO.tblE (i := 1) rfl
      refine hl_h (o_rangeL hO (hO.teq 1 rfl) he_55 hB_56 Try.underlying93 rfl) rfl ?_
      rintro _ H_51 ⟨b_52, rfl, hO⟩
      refine hl_nil (thenQ_n (hw_block ?_))
      obtain ⟨I_58, h, hI_60⟩ := h
      replace hO := hO.nil fStr 9
      refine hw_lp (fun n' g' H' => ∃ (out : List (List UInt8)) (R : List (GTip × Bool)) (v_57 : Value) (Z' : Nat → Prop), n' = R.length ∧ g' = [(2, ptr b_9 0), (12, v_57), (54, ptr b_52 0)] ∧ I_58 out R ∧ Own H' Z' (own fStr 9 v_57 out :: itl (aggOf fGTip) Value.bool b_52 b_35 es_53 ck_54 R none :: tblE b_35 es_53 ck_54 :: box b_9 [.int .i64 t.States, v_1, v_3, v_5] 48 :: fz fGArc.rep v_5 t.Arcs :: fz fGTip.rep v_3 t.Ends :: fz fGTip.rep v_1 t.Starts :: inZ Z :: L)) _ _ (a_c 2 rfl (a_c 12 rfl (a_c 54 rfl a_n))) ⟨[], xat2, .slice none 0 0, _, rfl, rfl, h, (Own.sel (Ls := [own fStr 9 (.slice none 0 0) [], itl (aggOf fGTip) Value.bool b_52 b_35 es_53 ck_54 xat2 none, fz fByte.rep v_29 w, tblE b_35 es_53 ck_54, box b_9 [.int .i64 t.States, v_1, v_3, v_5] 48, fz fGArc.rep v_5 t.Arcs, fz fGTip.rep v_3 t.Ends, fz fGTip.rep v_1 t.Starts, inZ Z]) (L := L) [0, 1, 3, 4, 5, 6, 7, 8] rfl hO)⟩ ?_
      rintro _ _ H_61 ⟨out, R, v_57, Z_62, rfl, rfl, h, hO⟩
      replace h := hI_60 out R h
      refine hw_seq (hw_region (hl_h (o_nextL hO (i := 1) rfl (hO.teq 2 rfl) hB_56 rfl) rfl ?_))
      rintro _ H_64 (⟨hR_65, rfl, hO⟩ | ⟨j_66, hj_67, rfl, hO⟩)
      ·replace h := h.1 hR_65
       refine hl_v (v_extract rfl rfl) rfl (hl_nil (thenQ_n (hw_seq (hw_cond_f rfl (hw_exit (thenQ_e (thenQ_e (blockQ_hit (thenQ_n (hw_seq (hw_region (hl_v (v_move rfl) rfl ?_))))))))))))
       obtain ⟨hs_68, h⟩ := h
       refine hl_h (h_call Try.call60 (evs_cons rfl (evs_cons rfl evs_nil)) (orderedStr_spec (a0 := out) hs_68 hO (Rd.of_own (i := 0) rfl) Try.call61 (fun Ls q0 q1 H Z hO => HC.mono (cmpStr_spec (a0 := q0) (a1 := q1) hO) (fun v H' h => h)))) rfl ?_
       rintro v_69 H_70 ⟨Z_71, _, _, rfl, hO⟩
       refine hl_v (v_assign rfl) rfl (hl_v (v_assign rfl) rfl (hl_nil (thenQ_n (hw_ret (ret_i _ (ra_t rfl (ra_t rfl ra_nil)) ?_)))))
       exact ⟨_, (ordL (fun q0 q1 => (cmpS q0 q1)) out), 0, v_69, (hO.inz 8 rfl), h, rfl, (Own.sel (Ls := [own fStr 9 v_69 (ordL (fun q0 q1 => (cmpS q0 q1)) out), own fStr 9 v_57 out, itl (aggOf fGTip) Value.bool b_52 b_35 es_53 ck_54 R none, tblE b_35 es_53 ck_54, box b_9 [.int .i64 t.States, v_1, v_3, v_5] 48, fz fGArc.rep v_5 t.Arcs, fz fGTip.rep v_3 t.Ends, fz fGTip.rep v_1 t.Starts, inZ Z]) (L := L) [0] rfl hO)⟩
      ·replace h := h.2 j_66 hj_67
       refine hl_v (v_extract rfl rfl) rfl (hl_nil (thenQ_n (hw_seq (hw_cond_t rfl (hw_skip (thenQ_n (hw_block (hw_seq (hw_region (hl_v (v_entryL hO (i := 1) rfl (hO.teq 2 rfl) hB_56 rfl) rfl (hl_v (v_extract rfl rfl) rfl (hl_h (o_alloc (cs := (fGTip.enc (⟨(0 : Int), ([] : List UInt8)⟩ : GTip))) hO Try.zeroValue91 rfl) rfl ?_))))))))))))
       rintro _ H_73 ⟨b_74, rfl, hO⟩
       refine hl_s (o_storeA (us := (fGTip.enc ((R.getD j_66 default).1))) hO 0 rfl Try.sizeOf91 rfl rfl rfl rfl (by intro u hu; exact (fGTip).one _ u hu)) ?_
       rintro _ H_75 hO
       refine hl_nil (thenQ_n (hw_seq (hw_region (hl_v (v_fieldA Try.underlying48 rfl Try.sizeOf45 rfl) rfl (hl_v (v_load1 Try.isAgg45 rfl (Blk.cell (hO.box 4 rfl) rfl)) rfl ?_)))))
       have hln_76 := Sl.cap (hO.fsl 6 rfl)
       refine hl_v (v_lenL rfl Try.underlying45 rfl (hO.fsl 6 rfl)) rfl (hl_v (v_move rfl) rfl (hl_nil (thenQ_n (hw_block ?_))))
       obtain ⟨I_78, h, hI_80⟩ := h
       refine hw_lp (fun n' g' H' => ∃ (out2 : List (List UInt8)) (k3 : Nat) (v_77 : Value) (Z' : Nat → Prop), n' = t.Ends.length - k3 ∧ g' = [(2, ptr b_9 0), (12, v_77), (13, ptr b_74 0), (54, ptr b_52 0), (60, v_3), (61, .int .i64 (t.Ends.length : Int)), (62, .int .i64 (k3 : Int))] ∧ I_78 out2 k3 ∧ k3 ≤ t.Ends.length ∧ Own H' Z' (box b_74 (fGTip.enc ((R.getD j_66 default).1)) 91 :: own fStr 9 v_77 out2 :: itl (aggOf fGTip) Value.bool b_52 b_35 es_53 ck_54 (R.eraseIdx j_66) (some (R.getD j_66 default)) :: tblE b_35 es_53 ck_54 :: box b_9 [.int .i64 t.States, v_1, v_3, v_5] 48 :: fz fGArc.rep v_5 t.Arcs :: fz fGTip.rep v_3 t.Ends :: fz fGTip.rep v_1 t.Starts :: inZ Z :: L)) _ _ (a_c 2 rfl (a_c 12 rfl (a_c 13 rfl (a_c 54 rfl (a_c 60 rfl (a_c 61 rfl (a_c 62 rfl a_n))))))) ⟨out, 0, v_57, _, rfl, rfl, h, by omega, hO⟩ ?_
       rintro _ _ H_81 ⟨out2, k3, v_77, Z_82, rfl, rfl, h, hb_83, hO⟩
       replace h := hI_80 out2 k3 h hb_83
       refine hw_seq (hw_region (hl_v (v_lss rfl rfl) rfl (hl_nil (thenQ_n (hw_seq (hw_cond rfl (fun hc_84 => ?_) (fun hc_84 => ?_)))))))
       ·replace h := ite_t h hc_84
        refine hw_skip (thenQ_n (hw_seq (hw_block (hw_seq (hw_region (hl_v (v_ixL Try.underlying45 Try.sizeOf91 rfl rfl (hO.fsl 6 rfl) (by exact ⟨Int.natCast_nonneg _, of_decide_eq_true hc_84⟩)) rfl (hl_v (v_loadFl Try.isAgg91 Try.sizeOf91 rfl (hO.fsl 6 rfl) rfl (by exact ⟨Int.natCast_nonneg _, of_decide_eq_true hc_84⟩)) rfl (hl_h (o_alloc (cs := (fGTip.enc (⟨(0 : Int), ([] : List UInt8)⟩ : GTip))) hO Try.zeroValue91 rfl) rfl ?_))))))))
        rintro _ H_85 ⟨b_86, rfl, hO⟩
        refine hl_s (o_storeA (us := (fGTip.enc (t.Ends.getD k3 default))) hO 0 rfl Try.sizeOf91 rfl rfl rfl rfl (by intro u hu; exact (fGTip).one _ u hu)) ?_
        rintro _ H_87 hO
        refine hl_nil (thenQ_n (hw_seq (hw_region (hl_v (v_fieldA Try.underlying91 rfl Try.sizeOf3 rfl) rfl (hl_v (v_load1 Try.isAgg3 rfl (Blk.cell (hO.box 0 rfl) rfl)) rfl (hl_v (v_fieldA Try.underlying91 rfl Try.sizeOf3 rfl) rfl (hl_v (v_load1 Try.isAgg3 rfl (Blk.cell (hO.box 1 rfl) rfl)) rfl (hl_v (v_eql rfl rfl) rfl (hl_nil (thenQ_n (hw_sub _ (a_c 2 rfl (a_c 12 rfl (a_c 13 rfl (a_c 15 rfl (a_c 54 rfl (a_c 60 rfl (a_c 61 rfl (a_c 62 rfl (a_c 70 rfl a_n))))))))) (hw_cond rfl (fun hc_88 => ?_) (fun hc_88 => ?_)))))))))))))
        ·replace h := ite_t h hc_88
         refine hw_region (hl_v (v_move rfl) rfl (hl_v (v_fieldA Try.underlying91 rfl Try.sizeOf9 rfl) rfl (hl_v (v_load1 Try.isAgg9 rfl (Blk.cell (hO.box 1 rfl) rfl)) rfl (hl_v (v_fieldA Try.underlying91 rfl Try.sizeOf9 rfl) rfl (hl_v (v_load1 Try.isAgg9 rfl (Blk.cell (hO.box 0 rfl) rfl)) rfl ?_)))))
         obtain ⟨hs_89, h⟩ := h
         refine hl_v (v_addS rfl rfl hs_89) rfl (hl_h (o_lit (g := fStr) (l := [(((R.getD j_66 default).1).Out ++ (t.Ends.getD k3 default).Out)]) (xs := [.tmp 76]) hO Try.underlying52 Try.sizeOf9 Try.zeroValue9 rfl (evs_cons rfl evs_nil) rfl rfl rfl rfl rfl) rfl ?_)
         rintro v_91 H_90 hO
         obtain ⟨hs_94, h⟩ := h
         refine hl_h (o_append (l2 := [(((R.getD j_66 default).1).Out ++ (t.Ends.getD k3 default).Out)]) hO 3 rfl rfl Try.underlying52 Try.type9 rfl rfl rfl rfl rfl rfl rfl (hO.osl 0 rfl) hs_94 (le63 hs_94 rfl)) rfl ?_
         rintro v_93 H_92 hO
         refine hl_v (v_assign rfl) rfl (hl_nil (blockQ_n (thenQ_n (hw_region (hl_v (v_add rfl rfl (by have hq := of_decide_eq_true hc_84; have hm := hln_76; constructor <;> omega)) rfl (hl_v (v_move rfl) rfl (hl_nil (thenQ_n ?_))))))))
         exact ⟨_, _, (a_c 2 rfl (a_c 12 rfl (a_c 13 rfl (a_c 54 rfl (a_c 60 rfl (a_c 61 rfl (a_c 62 rfl a_n))))))), ⟨(out2 ++ [(((R.getD j_66 default).1).Out ++ (t.Ends.getD k3 default).Out)]), k3 + 1, v_93, _, rfl, rfl, h, (by have hq := of_decide_eq_true hc_84; omega), (Own.sel (Ls := [own fStr 9 v_91 [(((R.getD j_66 default).1).Out ++ (t.Ends.getD k3 default).Out)], box b_86 (fGTip.enc (t.Ends.getD k3 default)) 91, box b_74 (fGTip.enc ((R.getD j_66 default).1)) 91, own fStr 9 v_93 (out2 ++ [(((R.getD j_66 default).1).Out ++ (t.Ends.getD k3 default).Out)]), itl (aggOf fGTip) Value.bool b_52 b_35 es_53 ck_54 (R.eraseIdx j_66) (some (R.getD j_66 default)), tblE b_35 es_53 ck_54, box b_9 [.int .i64 t.States, v_1, v_3, v_5] 48, fz fGArc.rep v_5 t.Arcs, fz fGTip.rep v_3 t.Ends, fz fGTip.rep v_1 t.Starts, inZ Z]) (L := L) [2, 3, 4, 5, 6, 7, 8, 9, 10] rfl hO)⟩, (by have hq := of_decide_eq_true hc_84; omega)⟩
        ·replace h := ite_f h hc_88
         refine hw_skip (blockQ_n (thenQ_n (hw_region (hl_v (v_add rfl rfl (by have hq := of_decide_eq_true hc_84; have hm := hln_76; constructor <;> omega)) rfl (hl_v (v_move rfl) rfl (hl_nil (thenQ_n ?_)))))))
         exact ⟨_, _, (a_c 2 rfl (a_c 12 rfl (a_c 13 rfl (a_c 54 rfl (a_c 60 rfl (a_c 61 rfl (a_c 62 rfl a_n))))))), ⟨out2, k3 + 1, v_77, _, rfl, rfl, h, (by have hq := of_decide_eq_true hc_84; omega), (Own.sel (Ls := [box b_86 (fGTip.enc (t.Ends.getD k3 default)) 91, box b_74 (fGTip.enc ((R.getD j_66 default).1)) 91, own fStr 9 v_77 out2, itl (aggOf fGTip) Value.bool b_52 b_35 es_53 ck_54 (R.eraseIdx j_66) (some (R.getD j_66 default)), tblE b_35 es_53 ck_54, box b_9 [.int .i64 t.States, v_1, v_3, v_5] 48, fz fGArc.rep v_5 t.Arcs, fz fGTip.rep v_3 t.Ends, fz fGTip.rep v_1 t.Starts, inZ Z]) (L := L) [1, 2, 3, 4, 5, 6, 7, 8, 9] rfl hO)⟩, (by have hq := of_decide_eq_true hc_84; omega)⟩
       ·replace h := ite_f h hc_84
        refine hw_exit (thenQ_e (thenQ_e (blockQ_hit (blockQ_n (thenQ_n ?_)))))
        replace hO := hO.itlN (i := 2) rfl
        exact ⟨_, _, (a_c 2 rfl (a_c 12 rfl (a_c 54 rfl a_n))), ⟨out2, (R.eraseIdx j_66), v_77, _, rfl, rfl, h, (Own.sel (Ls := [box b_74 (fGTip.enc ((R.getD j_66 default).1)) 91, own fStr 9 v_77 out2, itl (aggOf fGTip) Value.bool b_52 b_35 es_53 ck_54 (R.eraseIdx j_66) none, tblE b_35 es_53 ck_54, box b_9 [.int .i64 t.States, v_1, v_3, v_5] 48, fz fGArc.rep v_5 t.Arcs, fz fGTip.rep v_3 t.Ends, fz fGTip.rep v_1 t.Starts, inZ Z]) (L := L) [1, 2, 3, 4, 5, 6, 7, 8] rfl hO)⟩, (eraseIdx_lt hj_67)⟩
theorem fOutsP_spec {a0 : GFst} {a1 : List UInt8} {v_1 : Value} {v_3 : Value} {v_5 : Value} {L : List As} {H : Heap} {Z : Nat → Prop} (hO : Own H Z (L)) (hf_2 : Fz fGTip.rep L v_1 a0.Starts) (hf_4 : Fz fGTip.rep L v_3 a0.Ends) (hf_6 : Fz fGArc.rep L v_5 a0.Arcs) : HC Try.prog 27 [.agg [.int .i64 a0.States, v_1, v_3, v_5].toArray, str a1] H (fun v H' => ∃ (Z' : Nat → Prop) (v_7 : Value), (∀ b, Z b → Z' b) ∧ v = .tuple #[v_7, .int .i64 ((fOuts a0 a1).2)] ∧ Own H' Z' (own fStr 9 v_7 ((fOuts a0 a1).1) :: L)) := by
  refine (fOutsP_ok (t := a0) (w := a1) (@fOutsP_wp a0 a1) hO hf_2 hf_4 hf_6).mono ?_
  rintro v H' ⟨Z', r0, r1, v_7, hz, hq, hv, hO'⟩
  obtain ⟨rfl, rfl⟩ := hq
  exact ⟨Z', v_7, hz, hv, hO'⟩

theorem indexStr_ok {s : List (List UInt8)} {xv : List UInt8} {v_1 : Value} {Q : Int → Prop} {H : Heap} {Z : Nat → Prop} {L : List As} (h : wp_indexStr s xv Q) (hO : Own H Z (L)) (hr_2 : Rd fStr.rep L v_1 s) : HC Try.prog 107 [v_1, str xv] H (fun v H' => ∃ (r0 : Int) , Q r0 ∧ v = .int .i64 r0 ∧ H' = H) := by
 unfold wp_indexStr at h
 refine hc_of_hw (N := 19) (rs := [(.tmp 4)]) Try.func107 rfl rfl rfl rfl (hw_seq (hw_region (hl_v (v_assign rfl) rfl (hl_nil (thenQ_n (hw_seq (hw_seq (hw_region (hl_v (v_move rfl) rfl ?_)))))))))
 have hln_3 := Sl.cap (Rd.sl hr_2 hO)
 refine hl_v (v_lenL rfl Try.underlying52 rfl (Rd.sl hr_2 hO)) rfl (hl_v (v_move rfl) rfl (hl_nil (thenQ_n (hw_block ?_))))
 obtain ⟨I_4, h, hI_6⟩ := h
 refine hw_lp (fun n' g' H' => ∃ (k : Nat) (Z' : Nat → Prop), n' = s.length - k ∧ g' = [(0, v_1), (1, str xv), (7, .int .i64 (s.length : Int)), (8, .int .i64 (k : Int))] ∧ I_4 k ∧ k ≤ s.length ∧ Own H' Z' (L) ∧ H = H') _ _ (a_c 0 rfl (a_c 1 rfl (a_c 7 rfl (a_c 8 rfl a_n)))) ⟨0, _, rfl, rfl, h, by omega, hO, rfl⟩ ?_
 rintro _ _ H_7 ⟨k, Z_8, rfl, rfl, h, hb_9, hO, rfl⟩
 replace h := hI_6 k h hb_9
 refine hw_seq (hw_region (hl_v (v_lss rfl rfl) rfl (hl_nil (thenQ_n (hw_seq (hw_cond rfl (fun hc_10 => ?_) (fun hc_10 => ?_)))))))
 ·replace h := ite_t h hc_10
  refine hw_skip (thenQ_n (hw_seq (hw_block (hw_seq (hw_region (hl_v (v_move rfl) rfl (hl_v (v_assign rfl) rfl (hl_nil (thenQ_n (hw_seq (hw_region (hl_v (v_move rfl) rfl (hl_v (v_move rfl) rfl (hl_v (v_move rfl) rfl (hl_v (v_ixL Try.underlying52 Try.sizeOf9 rfl rfl (Rd.sl hr_2 hO) (by exact ⟨Int.natCast_nonneg _, of_decide_eq_true hc_10⟩)) rfl (hl_v (v_loadSc Try.isAgg9 rfl (Rd.sl hr_2 hO) rfl (by exact ⟨Int.natCast_nonneg _, of_decide_eq_true hc_10⟩) rfl) rfl (hl_v (v_eqlS rfl rfl) rfl (hl_nil (thenQ_n (hw_cond rfl (fun hc_11 => ?_) (fun hc_11 => ?_)))))))))))))))))))))
  ·replace h := ite_t h hc_11
   refine hw_seq (hw_region (hl_v (v_move rfl) rfl (hl_v (v_assign rfl) rfl (hl_nil (thenQ_n (hw_sub _ (a_c 4 rfl a_n) (hw_ret (blockQ_r (thenQ_r (thenQ_r (blockQ_r (thenQ_r (ret_i _ (ra_t rfl ra_nil) ?_)))))))))))))
   exact ⟨(k : Int), h, rfl, rfl⟩
  ·replace h := ite_f h hc_11
   refine hw_skip (blockQ_n (thenQ_n (hw_region (hl_v (v_add rfl rfl (by have hq := of_decide_eq_true hc_10; have hm := hln_3; constructor <;> omega)) rfl (hl_v (v_move rfl) rfl (hl_nil (thenQ_n ?_)))))))
   exact ⟨_, _, (a_c 0 rfl (a_c 1 rfl (a_c 7 rfl (a_c 8 rfl a_n)))), ⟨k + 1, _, rfl, rfl, h, (by have hq := of_decide_eq_true hc_10; omega), hO, rfl⟩, (by have hq := of_decide_eq_true hc_10; omega)⟩
 ·replace h := ite_f h hc_10
  refine hw_exit (thenQ_e (thenQ_e (blockQ_hit (thenQ_n (hw_seq (hw_region (hl_v (v_assign rfl) rfl (hl_nil (thenQ_n (hw_ret (ret_i _ (ra_t rfl ra_nil) ?_)))))))))))
  exact ⟨(-1), h, rfl, rfl⟩
theorem indexStr_spec {a0 : List (List UInt8)} {a1 : List UInt8} {v_1 : Value} {L : List As} {H : Heap} {Z : Nat → Prop} (hO : Own H Z (L)) (hr_2 : Rd fStr.rep L v_1 a0) : HC Try.prog 107 [v_1, str a1] H (fun v H' => v = .int .i64 (idxF (fun q => decide (q = a1)) a0) ∧ H' = H) := by
  refine (indexStr_ok (s := a0) (xv := a1) (@indexStr_wp a0 a1) hO hr_2).mono ?_
  rintro v H' ⟨r0, hq, hv, hH⟩
  obtain rfl := hq
  exact ⟨hv, hH⟩

theorem containsStr_ok {s : List (List UInt8)} {xv : List UInt8} {v_1 : Value} {Q : Bool → Prop} {H : Heap} {Z : Nat → Prop} {L : List As} (h : wp_containsStr s xv Q) (hO : Own H Z (L)) (hr_2 : Rd fStr.rep L v_1 s) : HC Try.prog 87 [v_1, str xv] H (fun v H' => ∃ (r0 : Bool) , Q r0 ∧ v = .bool r0 ∧ H' = H) := by
 unfold wp_containsStr at h
 refine hc_of_hw (N := 9) (rs := [(.tmp 4)]) Try.func87 rfl rfl rfl rfl (hw_seq (hw_region (hl_v (v_assign rfl) rfl (hl_nil (thenQ_n (hw_seq (hw_region (hl_v (v_move rfl) rfl (hl_v (v_move rfl) rfl (hl_v (v_call Try.call107 (evs_cons rfl (evs_cons rfl evs_nil)) (indexStr_spec (a0 := s) (a1 := xv) hO hr_2)) rfl (hl_v (v_geq rfl rfl) rfl (hl_v (v_assign rfl) rfl (hl_nil (thenQ_n (hw_ret (ret_i _ (ra_t rfl ra_nil) ?_))))))))))))))))
 exact ⟨decide (0 ≤ idxF (fun q => decide (q = xv)) s), h, rfl, rfl⟩
theorem containsStr_spec {a0 : List (List UInt8)} {a1 : List UInt8} {v_1 : Value} {L : List As} {H : Heap} {Z : Nat → Prop} (hO : Own H Z (L)) (hr_2 : Rd fStr.rep L v_1 a0) : HC Try.prog 87 [v_1, str a1] H (fun v H' => v = .bool ((a0.contains a1)) ∧ H' = H) := by
  refine (containsStr_ok (s := a0) (xv := a1) (@containsStr_wp a0 a1) hO hr_2).mono ?_
  rintro v H' ⟨r0, hq, hv, hH⟩
  obtain rfl := hq
  exact ⟨hv, hH⟩

theorem fHasP_ok {t : GFst} {w : List UInt8} {out : List UInt8} {v_1 : Value} {v_3 : Value} {v_5 : Value} {Q : Bool → Int → Prop} {H : Heap} {Z : Nat → Prop} {L : List As} (h : wp_fHasP t w out Q) (hO : Own H Z (L)) (hf_2 : Fz fGTip.rep L v_1 t.Starts) (hf_4 : Fz fGTip.rep L v_3 t.Ends) (hf_6 : Fz fGArc.rep L v_5 t.Arcs) : HC Try.prog 62 [.agg [.int .i64 t.States, v_1, v_3, v_5].toArray, str w, str out] H (fun v H' => ∃ (Z' : Nat → Prop) (r0 : Bool) (r1 : Int) , (∀ b, Z b → Z' b) ∧ Q r0 r1 ∧ v = .tuple #[.bool r0, .int .i64 r1] ∧ Own H' Z' (L)) := by
 replace hO := hO.inZ
 replace hO := Fz.items [_] hf_2 hO
 replace hO := Fz.items [_, _] hf_4 hO
 replace hO := Fz.items [_, _, _] hf_6 hO
 unfold wp_fHasP at h
 refine hc_of_hw (N := 20) (rs := [(.tmp 6), (.tmp 7)]) Try.func62 rfl rfl rfl rfl (hw_seq (hw_region (hl_h (o_box (cs := [.int .i64 t.States, v_1, v_3, v_5]) hO rfl rfl) rfl ?_)))
 rintro _ H_7 ⟨b_8, rfl, hO⟩
 refine hl_v (v_assign rfl) rfl (hl_v (v_assign rfl) rfl (hl_nil (thenQ_n (hw_seq (hw_region (hl_v (v_loadA Try.isAgg48 Try.sizeOf48 rfl (Blk.at0 (hO.box 0 rfl)) rfl) rfl (hl_v (v_move rfl) rfl (hl_h (h_call Try.call27 (evs_cons rfl (evs_cons rfl evs_nil)) (fOutsP_spec (a0 := t) (a1 := w) hO (Fz.of (i := 3) rfl) (Fz.of (i := 2) rfl) (Fz.of (i := 1) rfl))) rfl ?_))))))))
 rintro _ H_10 ⟨Z_11, v_9, _, rfl, hO⟩
 refine hl_v (v_move rfl) rfl (hl_v (v_extract rfl rfl) rfl (hl_v (v_extract rfl rfl) rfl (hl_v (v_assign rfl) rfl (hl_v (v_assign rfl) rfl (hl_nil (thenQ_n (hw_seq (hw_region (hl_v (v_move rfl) rfl (hl_v (v_move rfl) rfl (hl_v (v_call Try.call87 (evs_cons rfl (evs_cons rfl evs_nil)) (containsStr_spec (a0 := (fOuts t w).1) (a1 := out) hO (Rd.of_own (i := 0) rfl))) rfl (hl_v (v_move rfl) rfl (hl_v (v_assign rfl) rfl (hl_v (v_assign rfl) rfl (hl_nil (thenQ_n (hw_sub _ (a_c 6 rfl (a_c 7 rfl a_n)) (hw_ret (ret_i _ (ra_t rfl (ra_t rfl ra_nil)) ?_)))))))))))))))))))
 exact ⟨_, (((fOuts t w).1).contains out), (fOuts t w).2, (hO.inz 5 rfl), h, rfl, (Own.sel (Ls := [own fStr 9 v_9 ((fOuts t w).1), box b_8 [.int .i64 t.States, v_1, v_3, v_5] 48, fz fGArc.rep v_5 t.Arcs, fz fGTip.rep v_3 t.Ends, fz fGTip.rep v_1 t.Starts, inZ Z]) (L := L) [] rfl hO)⟩
theorem fHasP_spec {a0 : GFst} {a1 : List UInt8} {a2 : List UInt8} {v_1 : Value} {v_3 : Value} {v_5 : Value} {L : List As} {H : Heap} {Z : Nat → Prop} (hO : Own H Z (L)) (hf_2 : Fz fGTip.rep L v_1 a0.Starts) (hf_4 : Fz fGTip.rep L v_3 a0.Ends) (hf_6 : Fz fGArc.rep L v_5 a0.Arcs) : HC Try.prog 62 [.agg [.int .i64 a0.States, v_1, v_3, v_5].toArray, str a1, str a2] H (fun v H' => ∃ (Z' : Nat → Prop) , (∀ b, Z b → Z' b) ∧ v = .tuple #[.bool ((fHas a0 a1 a2).1), .int .i64 ((fHas a0 a1 a2).2)] ∧ Own H' Z' (L)) := by
  refine (fHasP_ok (t := a0) (w := a1) (out := a2) (@fHasP_wp a0 a1 a2) hO hf_2 hf_4 hf_6).mono ?_
  rintro v H' ⟨Z', r0, r1, hz, hq, hv, hO'⟩
  obtain ⟨rfl, rfl⟩ := hq
  exact ⟨Z', hz, hv, hO'⟩

theorem fStatesP_ok {l : List GTip} {v_1 : Value} {Q : (List Int) → Prop} {H : Heap} {Z : Nat → Prop} {L : List As} (h : wp_fStatesP l Q) (hO : Own H Z (L)) (hr_2 : Rd fGTip.rep L v_1 l) : HC Try.prog 71 [v_1] H (fun v H' => ∃ (Z' : Nat → Prop) (r0 : List Int) (v_3 : Value), (∀ b, Z b → Z' b) ∧ Q r0 ∧ v = v_3 ∧ Own H' Z' (own fInt 3 v_3 r0 :: L)) := by
 replace hO := hO.inZ
 unfold wp_fStatesP at h
 refine hc_of_hw (N := 20) (rs := [(.tmp 2)]) Try.func71 rfl rfl rfl rfl (hw_seq (hw_region (hl_v (v_assign rfl) rfl (hl_nil (thenQ_n (hw_seq (hw_region (hl_v (v_assign rfl) rfl (hl_nil (thenQ_n (hw_seq (hw_seq (hw_region (hl_v (v_move rfl) rfl ?_))))))))))))))
 have hln_4 := Sl.cap (Rd.sl hr_2 (Own.tails [_] hO))
 refine hl_v (v_lenL rfl Try.underlying45 rfl (Rd.sl hr_2 (Own.tails [_] hO))) rfl (hl_v (v_move rfl) rfl (hl_nil (thenQ_n (hw_block ?_))))
 obtain ⟨I_6, h, hI_8⟩ := h
 replace hO := hO.nil fInt 3
 refine hw_lp (fun n' g' H' => ∃ (out : List Int) (k : Nat) (v_5 : Value) (Z' : Nat → Prop), n' = l.length - k ∧ g' = [(3, v_5), (6, v_1), (7, .int .i64 (l.length : Int)), (8, .int .i64 (k : Int))] ∧ I_6 out k ∧ k ≤ l.length ∧ Own H' Z' (own fInt 3 v_5 out :: inZ Z :: L)) _ _ (a_c 3 rfl (a_c 6 rfl (a_c 7 rfl (a_c 8 rfl a_n)))) ⟨[], 0, .slice none 0 0, _, rfl, rfl, h, by omega, hO⟩ ?_
 rintro _ _ H_9 ⟨out, k, v_5, Z_10, rfl, rfl, h, hb_11, hO⟩
 replace h := hI_8 out k h hb_11
 refine hw_seq (hw_region (hl_v (v_lss rfl rfl) rfl (hl_nil (thenQ_n (hw_seq (hw_cond rfl (fun hc_12 => ?_) (fun hc_12 => ?_)))))))
 ·replace h := ite_t h hc_12
  refine hw_skip (thenQ_n (hw_seq (hw_block (hw_seq (hw_region (hl_v (v_ixL Try.underlying45 Try.sizeOf91 rfl rfl (Rd.sl hr_2 (Own.tails [_, _] hO)) (by exact ⟨Int.natCast_nonneg _, of_decide_eq_true hc_12⟩)) rfl (hl_v (v_loadFl Try.isAgg91 Try.sizeOf91 rfl (Rd.sl hr_2 (Own.tails [_, _] hO)) rfl (by exact ⟨Int.natCast_nonneg _, of_decide_eq_true hc_12⟩)) rfl (hl_h (o_alloc (cs := (fGTip.enc (⟨(0 : Int), ([] : List UInt8)⟩ : GTip))) hO Try.zeroValue91 rfl) rfl ?_))))))))
  rintro _ H_13 ⟨b_14, rfl, hO⟩
  refine hl_s (o_storeA (us := (fGTip.enc (l.getD k default))) hO 0 rfl Try.sizeOf91 rfl rfl rfl rfl (by intro u hu; exact (fGTip).one _ u hu)) ?_
  rintro _ H_15 hO
  refine hl_nil (thenQ_n (hw_region (hl_v (v_move rfl) rfl (hl_v (v_fieldA Try.underlying91 rfl Try.sizeOf3 rfl) rfl (hl_v (v_load1 Try.isAgg3 rfl (Blk.cell (hO.box 0 rfl) rfl)) rfl (hl_h (o_lit (g := fInt) (l := [(l.getD k default).State]) (xs := [.tmp 14]) hO Try.underlying22 Try.sizeOf3 Try.zeroValue3 rfl (evs_cons rfl evs_nil) rfl rfl rfl rfl rfl) rfl ?_))))))
  rintro v_17 H_16 hO
  obtain ⟨hs_20, h⟩ := h
  refine hl_h (o_append (l2 := [(l.getD k default).State]) hO 2 rfl rfl Try.underlying22 Try.type3 rfl rfl rfl rfl rfl rfl rfl (hO.osl 0 rfl) hs_20 (le63 hs_20 rfl)) rfl ?_
  rintro v_19 H_18 hO
  refine hl_v (v_assign rfl) rfl (hl_nil (blockQ_n (thenQ_n (hw_region (hl_v (v_add rfl rfl (by have hq := of_decide_eq_true hc_12; have hm := hln_4; constructor <;> omega)) rfl (hl_v (v_move rfl) rfl (hl_nil (thenQ_n ?_))))))))
  exact ⟨_, _, (a_c 3 rfl (a_c 6 rfl (a_c 7 rfl (a_c 8 rfl a_n)))), ⟨(out ++ [(l.getD k default).State]), k + 1, v_19, _, rfl, rfl, h, (by have hq := of_decide_eq_true hc_12; omega), (Own.sel (Ls := [own fInt 3 v_17 [(l.getD k default).State], box b_14 (fGTip.enc (l.getD k default)) 91, own fInt 3 v_19 (out ++ [(l.getD k default).State]), inZ Z]) (L := L) [2, 3] rfl hO)⟩, (by have hq := of_decide_eq_true hc_12; omega)⟩
 ·replace h := ite_f h hc_12
  refine hw_exit (thenQ_e (thenQ_e (blockQ_hit (thenQ_n (hw_seq (hw_region (hl_v (v_move rfl) rfl ?_)))))))
  obtain ⟨hs_21, h⟩ := h
  refine hl_h (h_call Try.call99 (evs_cons rfl (evs_cons rfl evs_nil)) (orderedInt15_spec (a0 := out) hs_21 hO (Rd.of_own (i := 0) rfl) Try.call92 (fun Ls q0 q1 H Z hO => HC.mono (cmpInt_spec (a0 := q0) (a1 := q1) hO) (fun v H' h => ⟨Z, fun _ h => h, h.1, h.2 ▸ hO⟩)))) rfl ?_
  rintro v_22 H_23 ⟨Z_24, _, _, rfl, hO⟩
  refine hl_v (v_assign rfl) rfl (hl_nil (thenQ_n (hw_ret (ret_i _ (ra_t rfl ra_nil) ?_))))
  exact ⟨_, (ordL (fun q0 q1 => (cmpI q0 q1)) out), v_22, (hO.inz 2 rfl), h, rfl, (Own.sel (Ls := [own fInt 3 v_22 (ordL (fun q0 q1 => (cmpI q0 q1)) out), own fInt 3 v_5 out, inZ Z]) (L := L) [0] rfl hO)⟩
theorem fStatesP_spec {a0 : List GTip} {v_1 : Value} {L : List As} (hp : a0.length ≤ 1000000) {H : Heap} {Z : Nat → Prop} (hO : Own H Z (L)) (hr_2 : Rd fGTip.rep L v_1 a0) : HC Try.prog 71 [v_1] H (fun v H' => ∃ (Z' : Nat → Prop) (v_3 : Value), (∀ b, Z b → Z' b) ∧ v = v_3 ∧ Own H' Z' (own fInt 3 v_3 (fStates a0) :: L)) := by
  refine (fStatesP_ok (l := a0) (@fStatesP_wp a0 hp) hO hr_2).mono ?_
  rintro v H' ⟨Z', r0, v_3, hz, hq, hv, hO'⟩
  obtain rfl := hq
  exact ⟨Z', v_3, hz, hv, hO'⟩

end Go.Proofs.Ytbaciogbhjcdoaa
