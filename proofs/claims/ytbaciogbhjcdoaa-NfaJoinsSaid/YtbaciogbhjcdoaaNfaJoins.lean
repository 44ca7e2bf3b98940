/- Proved: the law 'NfaJoins' answers true, whatever it is given, and turns nothing. No condition. -/
import Derived.Test.YtbaciogbhjcdoaaRows
import Derived.Test.YtbaciogbhjcdoaaOpen
import Derived.Test.YtbaciogbhjcdoaaLaw
import Derived.Test.YtbaciogbhjcdoaaG10k
set_option linter.unusedVariables false
set_option linter.unusedSimpArgs false
namespace Go.Proofs.Ytbaciogbhjcdoaa.nfaJoins
open Go.Proofs Go.ChangeShapes Go.WideShapes Go.ChangeAt Go.RowKit
theorem own : ownKnob Try.prog.godebug = none := by kernel_rfl
theorem laid : laidOutB Try.prog = true := by kernel_rfl
theorem opn_s69 : Opn Try.prog 69 fGEdge.rep (fun x : GEdge => (fun n : Int => -9223372036854775808 ≤ n ∧ n ≤ 9223372036854775807) x.From ∧ (fun n : Int => -9223372036854775808 ≤ n ∧ n ≤ 9223372036854775807) x.To ∧ (fun _ : BSet => True) x.Set) := by
  intro D enc w fuel cs x h hw
  obtain ⟨xs, n, _, rfl, hl, hlen, hf⟩ := DataW.trod_struct Try.underlying69 h
  rw [show Try.prog.cellsOf 69 = 6 from by kernel_rfl] at hl
  have hlen0 : xs.length = 3 := hlen
  obtain ⟨y0, ys0, rfl, hlen1⟩ := uncons hlen0
  obtain ⟨y1, ys1, rfl, hlen2⟩ := uncons hlen1
  obtain ⟨y2, ys2, rfl, hlen3⟩ := uncons hlen2
  obtain rfl := List.length_eq_zero_iff.1 hlen3
  obtain ⟨c0, cs0, rfl, hl1⟩ := uncons hl
  obtain ⟨c1, cs1, rfl, hl2⟩ := uncons hl1
  obtain ⟨c2, cs2, rfl, hl3⟩ := uncons hl2
  obtain ⟨c3, cs3, rfl, hl4⟩ := uncons hl3
  obtain ⟨c4, cs4, rfl, hl5⟩ := uncons hl4
  obtain ⟨c5, cs5, rfl, hl6⟩ := uncons hl5
  obtain rfl := List.length_eq_zero_iff.1 hl6
  simp only [DataW.weights, Try.underlying69, List.map_cons, List.map_nil] at hw
  obtain ⟨w0, z0⟩ := weightsEach_cons hw
  obtain ⟨w1, z1⟩ := weightsEach_cons z0
  obtain ⟨w2, z2⟩ := weightsEach_cons z1
  have k3 : Try.prog.cellsOf 3 = 1 := by kernel_rfl
  have k34 : Try.prog.cellsOf 34 = 4 := by kernel_rfl
  have g0 : DataW.trod enc Try.prog w 0 (fun _ => true) true n 3 (List.take (Try.prog.cellsOf 3) (List.drop 0 [c0, c1, c2, c3, c4, c5])) = some y0 := hf 0 _ rfl
  rw [k3] at g0
  obtain ⟨x0, e0, b0⟩ := (opn_int Try.underlying3) enc w n [c0] y0 g0 w0
  have e0 : _ = fInt.enc x0 := e0
  replace e0 := (List.cons.inj e0).1
  have g1 : DataW.trod enc Try.prog w 0 (fun _ => true) true n 3 (List.take (Try.prog.cellsOf 3) (List.drop 1 [c0, c1, c2, c3, c4, c5])) = some y1 := hf 1 _ rfl
  rw [k3] at g1
  obtain ⟨x1, e1, b1⟩ := (opn_int Try.underlying3) enc w n [c1] y1 g1 w1
  have e1 : _ = fInt.enc x1 := e1
  replace e1 := (List.cons.inj e1).1
  have g2 : DataW.trod enc Try.prog w 0 (fun _ => true) true n 34 (List.take (Try.prog.cellsOf 34) (List.drop 2 [c0, c1, c2, c3, c4, c5])) = some y2 := hf 2 _ rfl
  rw [k34] at g2
  obtain ⟨x2, e2, b2⟩ := (opn_set Try.underlying34 Try.underlying32 (by kernel_rfl) (by kernel_rfl)) enc w n [c2, c3, c4, c5] y2 g2 w2
  have e2 : _ = fSet.enc x2 := e2
  subst e0
  subst e1
  obtain ⟨rfl, rfl, rfl, rfl⟩ : c2 = w64 x2.a ∧ c3 = w64 x2.b ∧ c4 = w64 x2.c ∧ c5 = w64 x2.d := by simpa [fSet, sw] using e2
  exact ⟨⟨x0, x1, x2⟩, rfl, ⟨b0, b1, b2⟩⟩
theorem opn_s25 : Opn Try.prog 25 rGNfa (fun x : GNfa => (fun n : Int => -9223372036854775808 ≤ n ∧ n ≤ 9223372036854775807) x.States ∧ (fun l : List Int => l.length * 8 ≤ 140737488351232 ∧ ∀ x ∈ l, (fun n : Int => -9223372036854775808 ≤ n ∧ n ≤ 9223372036854775807) x) x.Starts ∧ (fun l : List Int => l.length * 8 ≤ 140737488351232 ∧ ∀ x ∈ l, (fun n : Int => -9223372036854775808 ≤ n ∧ n ≤ 9223372036854775807) x) x.Ends ∧ (fun l : List GEdge => l.length * 48 ≤ 140737488351232 ∧ ∀ x ∈ l, (fun x : GEdge => (fun n : Int => -9223372036854775808 ≤ n ∧ n ≤ 9223372036854775807) x.From ∧ (fun n : Int => -9223372036854775808 ≤ n ∧ n ≤ 9223372036854775807) x.To ∧ (fun _ : BSet => True) x.Set) x) x.Edges) := by
  intro D enc w fuel cs x h hw
  obtain ⟨xs, n, _, rfl, hl, hlen, hf⟩ := DataW.trod_struct Try.underlying25 h
  rw [show Try.prog.cellsOf 25 = 4 from by kernel_rfl] at hl
  have hlen0 : xs.length = 4 := hlen
  obtain ⟨y0, ys0, rfl, hlen1⟩ := uncons hlen0
  obtain ⟨y1, ys1, rfl, hlen2⟩ := uncons hlen1
  obtain ⟨y2, ys2, rfl, hlen3⟩ := uncons hlen2
  obtain ⟨y3, ys3, rfl, hlen4⟩ := uncons hlen3
  obtain rfl := List.length_eq_zero_iff.1 hlen4
  obtain ⟨c0, cs0, rfl, hl1⟩ := uncons hl
  obtain ⟨c1, cs1, rfl, hl2⟩ := uncons hl1
  obtain ⟨c2, cs2, rfl, hl3⟩ := uncons hl2
  obtain ⟨c3, cs3, rfl, hl4⟩ := uncons hl3
  obtain rfl := List.length_eq_zero_iff.1 hl4
  simp only [DataW.weights, Try.underlying25, List.map_cons, List.map_nil] at hw
  obtain ⟨w0, z0⟩ := weightsEach_cons hw
  obtain ⟨w1, z1⟩ := weightsEach_cons z0
  obtain ⟨w2, z2⟩ := weightsEach_cons z1
  obtain ⟨w3, z3⟩ := weightsEach_cons z2
  have k3 : Try.prog.cellsOf 3 = 1 := by kernel_rfl
  have k22 : Try.prog.cellsOf 22 = 1 := by kernel_rfl
  have k23 : Try.prog.cellsOf 23 = 1 := by kernel_rfl
  have g0 : DataW.trod enc Try.prog w 0 (fun _ => true) true n 3 (List.take (Try.prog.cellsOf 3) (List.drop 0 [c0, c1, c2, c3])) = some y0 := hf 0 _ rfl
  rw [k3] at g0
  obtain ⟨x0, e0, b0⟩ := (opn_int Try.underlying3) enc w n [c0] y0 g0 w0
  have e0 : _ = fInt.enc x0 := e0
  replace e0 := (List.cons.inj e0).1
  have g1 : DataW.trod enc Try.prog w 0 (fun _ => true) true n 22 (List.take (Try.prog.cellsOf 22) (List.drop 1 [c0, c1, c2, c3])) = some y1 := hf 1 _ rfl
  rw [k22] at g1
  obtain ⟨x1, e1, b1⟩ := (Opn.imp (q := (fun l : List Int => l.length * 8 ≤ 140737488351232 ∧ ∀ x ∈ l, (fun n : Int => -9223372036854775808 ≤ n ∧ n ≤ 9223372036854775807) x)) (opn_slice (e := 3) Try.underlying22 (by kernel_rfl) (by decide) (opn_int Try.underlying3)) fun _ h => ⟨by have := h.1; rw [show Try.prog.bytesOf 3 = 8 from by kernel_rfl] at this; exact this, h.2⟩) enc w n [c1] y1 g1 w1
  obtain ⟨u1, e1, s1⟩ := e1
  replace e1 := (List.cons.inj e1).1
  have g2 : DataW.trod enc Try.prog w 0 (fun _ => true) true n 22 (List.take (Try.prog.cellsOf 22) (List.drop 2 [c0, c1, c2, c3])) = some y2 := hf 2 _ rfl
  rw [k22] at g2
  obtain ⟨x2, e2, b2⟩ := (Opn.imp (q := (fun l : List Int => l.length * 8 ≤ 140737488351232 ∧ ∀ x ∈ l, (fun n : Int => -9223372036854775808 ≤ n ∧ n ≤ 9223372036854775807) x)) (opn_slice (e := 3) Try.underlying22 (by kernel_rfl) (by decide) (opn_int Try.underlying3)) fun _ h => ⟨by have := h.1; rw [show Try.prog.bytesOf 3 = 8 from by kernel_rfl] at this; exact this, h.2⟩) enc w n [c2] y2 g2 w2
  obtain ⟨u2, e2, s2⟩ := e2
  replace e2 := (List.cons.inj e2).1
  have g3 : DataW.trod enc Try.prog w 0 (fun _ => true) true n 23 (List.take (Try.prog.cellsOf 23) (List.drop 3 [c0, c1, c2, c3])) = some y3 := hf 3 _ rfl
  rw [k23] at g3
  obtain ⟨x3, e3, b3⟩ := (Opn.imp (q := (fun l : List GEdge => l.length * 48 ≤ 140737488351232 ∧ ∀ x ∈ l, (fun x : GEdge => (fun n : Int => -9223372036854775808 ≤ n ∧ n ≤ 9223372036854775807) x.From ∧ (fun n : Int => -9223372036854775808 ≤ n ∧ n ≤ 9223372036854775807) x.To ∧ (fun _ : BSet => True) x.Set) x)) (opn_slice (e := 69) Try.underlying23 (by kernel_rfl) (by decide) opn_s69) fun _ h => ⟨by have := h.1; rw [show Try.prog.bytesOf 69 = 48 from by kernel_rfl] at this; exact this, h.2⟩) enc w n [c3] y3 g3 w3
  obtain ⟨u3, e3, s3⟩ := e3
  replace e3 := (List.cons.inj e3).1
  subst e0
  subst e1
  subst e2
  subst e3
  exact ⟨⟨x0, x1, x2, x3⟩, ⟨_, _, _, rfl, s1, s2, s3⟩, ⟨b0, b1, b2, b3⟩⟩
set_option maxRecDepth 100000 in
theorem lifted (os : Os) (started : os.Started) (H : Type) (enc : TypeId × Value → H) :
    ReturnsInHanded {} Try.checked os 5 .any (Rows.nfaJoinsSpec.pre6 enc Try.prog Try.f5 Rows.nfaJoinsRow.domain false) (Rows.nfaJoinsSpec.post enc Try.prog Try.f5 false true false false) := by
  refine returnsInHanded_of_change_sized (C := Try.checked) own started (by kernel_rfl) Try.func5
    (ChangeSpec.witness6 (enc := enc) (C := Try.checked) false ⟨#[], #[.agg #[.int .i64 0, .slice none 0 0, .slice none 0 0, .slice none 0 0], .agg #[.int .i64 0, .slice none 0 0, .slice none 0 0, .slice none 0 0], .int .i64 0, .int .i64 0], []⟩ 8 (by kernel_rfl) (by kernel_rfl) (by kernel_rfl) (by kernel_rfl)) ?_
  intro W base args ds gs before hval0 hW hcnd hsz _
  have hval : ∀ (j : Nat) t v, Try.f5.params[j]? = some t → args[j]? = some v → Value.okWide Try.prog W .any base t v := hval0
  have hW' := hW
  obtain ⟨p, q, hA0, hV, rfl, hfz, hnd⟩ := hW
  have hA : DataW.TrodAll enc Try.prog W 0 (fun _ => true) true Try.f5.params.toList args.toList ds p := hA0
  have hsz' : (DataW.weightsEach Try.prog (Try.f5.params.toList ++ Rows.nfaJoinsSpec.plain.varTypes Try.prog) (ds ++ gs)).all (· ≤ reachBytes) = true := hsz
  rw [Try.params5] at hA hval hsz'
  obtain ⟨v0, vs0, d0, ds0, p0, q0, hargs, rfl, rfl, h0, r0⟩ := trodAll_cons hA
  obtain ⟨v1, vs1, d1, ds1, p1, q1, rfl, rfl, rfl, h1, r1⟩ := trodAll_cons r0
  obtain ⟨v2, vs2, d2, ds2, p2, q2, rfl, rfl, rfl, h2, r2⟩ := trodAll_cons r1
  obtain ⟨v3, vs3, d3, ds3, p3, q3, rfl, rfl, rfl, h3, r3⟩ := trodAll_cons r2
  obtain ⟨rfl, rfl, rfl⟩ := trodAll_nil r3
  obtain rfl : args = #[v0, v1, v2, v3] := by cases args; simp_all
  obtain ⟨rfl, rfl⟩ := trodVars_none hV
  obtain ⟨s0, z0⟩ := weightsEach_cons hsz'
  obtain ⟨s1, z1⟩ := weightsEach_cons z0
  obtain ⟨s2, z2⟩ := weightsEach_cons z1
  obtain ⟨s3, z3⟩ := weightsEach_cons z2
  obtain ⟨y0, x0, b0⟩ := trod_open opn_s25 h0 s0
  obtain ⟨c0, rfl, _⟩ := okWide_struct Try.underlying25 (hval 0 25 v0 rfl rfl)
  obtain ⟨u0_1, u0_2, u0_3, e0, x0_1, x0_2, x0_3⟩ := x0
  obtain rfl : c0 = (([.int .i64 y0.States, u0_1, u0_2, u0_3] : List Value)).toArray := Array.toList_inj.1 e0
  obtain ⟨y1, x1, b1⟩ := trod_open opn_s25 h1 s1
  obtain ⟨c1, rfl, _⟩ := okWide_struct Try.underlying25 (hval 1 25 v1 rfl rfl)
  obtain ⟨u1_1, u1_2, u1_3, e1, x1_1, x1_2, x1_3⟩ := x1
  obtain rfl : c1 = (([.int .i64 y1.States, u1_1, u1_2, u1_3] : List Value)).toArray := Array.toList_inj.1 e1
  obtain ⟨y2, x2, b2⟩ := trod_open (opn_int Try.underlying3) h2 s2
  obtain rfl := cells_one x2 (okWide_notAgg (hval 2 3 v2 rfl rfl) (by rw [Try.underlying3]))
  obtain ⟨y3, x3, b3⟩ := trod_open (opn_int Try.underlying3) h3 s3
  obtain rfl := cells_one x3 (okWide_notAgg (hval 3 3 v3 rfl rfl) (by rw [Try.underlying3]))
  clear hA0 hval0
  simp only [List.append_nil] at hW'
  refine (calls_of_hc (law_true (lNfaJoins_spec (a0 := y0) (a1 := y1) (a2 := y2) (a3 := y3) (by have h1 := b0.2.1.1; have h2 := b0.2.2.1.1; have h3 := b1.2.1.1; have h4 := b1.2.2.1.1; dsimp only at *; exact ⟨⟨by omega, by omega⟩, ⟨by omega, by omega⟩⟩) (Own.start W.heap) (Fz.law x0_1) (Fz.law x0_2) (Fz.law x0_3) (Fz.law x1_1) (Fz.law x1_2) (Fz.law x1_3))) rfl).mono fun e W' ⟨v, he, henv, hv, hx⟩ => ?_
  subst hv
  exact ⟨_, he, post_true laid (by rw [Try.params5]; simp only [List.forall_mem_cons]; exact ⟨⟨by kernel_rfl, of_decide_eq_true (by kernel_rfl)⟩, ⟨by kernel_rfl, of_decide_eq_true (by kernel_rfl)⟩, ⟨by kernel_rfl, of_decide_eq_true (by kernel_rfl)⟩, ⟨by kernel_rfl, of_decide_eq_true (by kernel_rfl)⟩, by simp⟩) rfl Try.underlying4 rfl rfl hW' henv hx⟩
theorem over : Rows.nfaJoinsRow.holds Try.pinned (OpenSpec.ofChange Rows.nfaJoinsSpec) :=
  OpenClaim.holds_of_wide 5 Try.f5 rfl rfl rfl rfl rfl rfl rfl ⟨rfl, rfl, rfl, rfl, rfl⟩ rfl rfl rfl rfl rfl (by kernel_rfl) Try.func5 (by kernel_rfl)
    (of_decide_eq_true (by kernel_rfl)) (by unfold Func.isWrapper; first | (rw [if_pos (by decide +kernel)]; kernel_rfl) | (rw [if_neg (by decide +kernel)]; exact ⟨rfl, rfl⟩))
    (fun os started H enc _ => lifted os started H enc)
/-- The statement. -/
theorem proved : Rows.NfaJoinsSaid := over
end Go.Proofs.Ytbaciogbhjcdoaa.nfaJoins
