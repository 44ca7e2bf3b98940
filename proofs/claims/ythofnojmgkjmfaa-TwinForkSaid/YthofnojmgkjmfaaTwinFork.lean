/- Proved: the law 'TwinFork' answers true, whatever it is given, and turns nothing. No condition. -/
import Derived.Test.YthofnojmgkjmfaaMg19TwinFork
import Derived.Test.YthofnojmgkjmfaaRows
set_option linter.unusedVariables false
set_option linter.unusedSimpArgs false
namespace Go.Proofs.Ythofnojmgkjmfaa.twinFork
open Go.Proofs Go.ChangeShapes Go.WideShapes Go.ChangeAt Go.RowKit
theorem own : ownKnob Try.prog.godebug = none := by kernel_rfl
theorem laid : laidOutB Try.prog = true := by kernel_rfl
set_option maxRecDepth 100000 in
theorem lifted (os : Os) (started : os.Started) (H : Type) (enc : TypeId × Value → H) :
    ReturnsInHanded {} Try.checked os 3 .any (Rows.twinForkSpec.pre6 enc Try.prog Try.f3 Rows.twinForkRow.domain false) (Rows.twinForkSpec.post enc Try.prog Try.f3 false true false false) := by
  refine returnsInHanded_of_change_sized (C := Try.checked) own started (by kernel_rfl) Try.func3
    (ChangeSpec.witness6 (enc := enc) (C := Try.checked) false ⟨#[], #[.string ByteArray.empty, .string ByteArray.empty], []⟩ 8 (by kernel_rfl) (by kernel_rfl) (by kernel_rfl) (by kernel_rfl)) ?_
  intro W base args ds gs before hval0 hW hcnd hsz _
  have hval : ∀ (j : Nat) t v, Try.f3.params[j]? = some t → args[j]? = some v → Value.okWide Try.prog W .any base t v := hval0
  have hW' := hW
  obtain ⟨p, q, hA0, hV, rfl, hfz, hnd⟩ := hW
  have hA : DataW.TrodAll enc Try.prog W 0 (fun _ => true) true Try.f3.params.toList args.toList ds p := hA0
  have hsz' : (DataW.weightsEach Try.prog (Try.f3.params.toList ++ Rows.twinForkSpec.plain.varTypes Try.prog) (ds ++ gs)).all (· ≤ reachBytes) = true := hsz
  rw [Try.params3] at hA hval hsz'
  obtain ⟨v0, vs0, d0, ds0, p0, q0, hargs, rfl, rfl, h0, r0⟩ := trodAll_cons hA
  obtain ⟨v1, vs1, d1, ds1, p1, q1, rfl, rfl, rfl, h1, r1⟩ := trodAll_cons r0
  obtain ⟨rfl, rfl, rfl⟩ := trodAll_nil r1
  obtain rfl : args = #[v0, v1] := by cases args; simp_all
  obtain ⟨rfl, rfl⟩ := trodVars_none hV
  obtain ⟨s0, z0⟩ := weightsEach_cons hsz'
  obtain ⟨s1, z1⟩ := weightsEach_cons z0
  obtain ⟨y0, x0, b0⟩ := trod_open (opn_str Try.underlying9) h0 s0
  obtain rfl := cells_one x0 (okWide_notAgg (hval 0 9 v0 rfl rfl) (by rw [Try.underlying9]))
  obtain ⟨y1, x1, b1⟩ := trod_open (opn_str Try.underlying9) h1 s1
  obtain rfl := cells_one x1 (okWide_notAgg (hval 1 9 v1 rfl rfl) (by rw [Try.underlying9]))
  clear hA0 hval0
  simp only [List.append_nil] at hW'
  refine (calls_of_hc (law_true (lTwinFork_spec (a0 := y0) (a1 := y1) (Own.start W.heap))) rfl).mono fun e W' ⟨v, he, henv, hv, hx⟩ => ?_
  subst hv
  exact ⟨_, he, post_true laid (by rw [Try.params3]; simp only [List.forall_mem_cons]; exact ⟨⟨by kernel_rfl, of_decide_eq_true (by kernel_rfl)⟩, ⟨by kernel_rfl, of_decide_eq_true (by kernel_rfl)⟩, by simp⟩) rfl Try.underlying4 rfl rfl hW' henv hx⟩
theorem over : Rows.twinForkRow.holds Try.pinned (OpenSpec.ofChange Rows.twinForkSpec) :=
  OpenClaim.holds_of_wide 3 Try.f3 rfl rfl rfl rfl rfl rfl rfl ⟨rfl, rfl, rfl, rfl, rfl⟩ rfl rfl rfl rfl rfl (by kernel_rfl) Try.func3 (by kernel_rfl)
    (of_decide_eq_true (by kernel_rfl)) (by unfold Func.isWrapper; first | (rw [if_pos (by decide +kernel)]; kernel_rfl) | (rw [if_neg (by decide +kernel)]; exact ⟨rfl, rfl⟩))
    (fun os started H enc _ => lifted os started H enc)
/-- The statement. -/
theorem proved : Rows.TwinForkSaid := over
end Go.Proofs.Ythofnojmgkjmfaa.twinFork
