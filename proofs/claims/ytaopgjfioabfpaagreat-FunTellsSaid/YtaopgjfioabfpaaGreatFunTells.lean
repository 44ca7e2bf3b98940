/- Proved: the law 'FunTells' answers true, whatever it is given, and turns nothing. No condition. -/
import Derived.Test.YtaopgjfioabfpaaGreatMg19FunTells
import Derived.Test.YtaopgjfioabfpaaGreatRows
set_option linter.unusedVariables false
set_option linter.unusedSimpArgs false
namespace Go.Proofs.YtaopgjfioabfpaaGreat.funTells
open Go.Proofs Go.ChangeShapes Go.WideShapes Go.ChangeAt Go.RowKit
theorem own : ownKnob Tryz.prog.godebug = none := by kernel_rfl
theorem laid : laidOutB Tryz.prog = true := by kernel_rfl
theorem opn_s50 : Opn Tryz.prog 50 fGTip.rep (fun x : GTip => (fun n : Int => -9223372036854775808 ≤ n ∧ n ≤ 9223372036854775807) x.State ∧ (fun s : List UInt8 => s.length ≤ 140737488351232) x.Out) := by
  intro D enc w fuel cs x h hw
  obtain ⟨xs, n, _, rfl, hl, hlen, hf⟩ := DataW.trod_struct Tryz.underlying50 h
  rw [show Tryz.prog.cellsOf 50 = 2 from by kernel_rfl] at hl
  have hlen0 : xs.length = 2 := hlen
  obtain ⟨y0, ys0, rfl, hlen1⟩ := uncons hlen0
  obtain ⟨y1, ys1, rfl, hlen2⟩ := uncons hlen1
  obtain rfl := List.length_eq_zero_iff.1 hlen2
  obtain ⟨c0, cs0, rfl, hl1⟩ := uncons hl
  obtain ⟨c1, cs1, rfl, hl2⟩ := uncons hl1
  obtain rfl := List.length_eq_zero_iff.1 hl2
  simp only [DataW.weights, Tryz.underlying50, List.map_cons, List.map_nil] at hw
  obtain ⟨w0, z0⟩ := weightsEach_cons hw
  obtain ⟨w1, z1⟩ := weightsEach_cons z0
  have k3 : Tryz.prog.cellsOf 3 = 1 := by kernel_rfl
  have k9 : Tryz.prog.cellsOf 9 = 1 := by kernel_rfl
  have g0 : DataW.trod enc Tryz.prog w 0 (fun _ => true) true n 3 (List.take (Tryz.prog.cellsOf 3) (List.drop 0 [c0, c1])) = some y0 := hf 0 _ rfl
  rw [k3] at g0
  obtain ⟨x0, e0, b0⟩ := (opn_int Tryz.underlying3) enc w n [c0] y0 g0 w0
  have e0 : _ = fInt.enc x0 := e0
  replace e0 := (List.cons.inj e0).1
  have g1 : DataW.trod enc Tryz.prog w 0 (fun _ => true) true n 9 (List.take (Tryz.prog.cellsOf 9) (List.drop 1 [c0, c1])) = some y1 := hf 1 _ rfl
  rw [k9] at g1
  obtain ⟨x1, e1, b1⟩ := (opn_str Tryz.underlying9) enc w n [c1] y1 g1 w1
  have e1 : _ = fStr.enc x1 := e1
  replace e1 := (List.cons.inj e1).1
  subst e0
  subst e1
  exact ⟨⟨x0, x1⟩, rfl, ⟨b0, b1⟩⟩
theorem opn_s39 : Opn Tryz.prog 39 fGArc.rep (fun x : GArc => (fun n : Int => -9223372036854775808 ≤ n ∧ n ≤ 9223372036854775807) x.From ∧ (fun n : Int => -9223372036854775808 ≤ n ∧ n ≤ 9223372036854775807) x.To ∧ (fun _ : BSet => True) x.Set ∧ (fun s : List UInt8 => s.length ≤ 140737488351232) x.Out ∧ (fun _ : Bool => True) x.Copy) := by
  intro D enc w fuel cs x h hw
  obtain ⟨xs, n, _, rfl, hl, hlen, hf⟩ := DataW.trod_struct Tryz.underlying39 h
  rw [show Tryz.prog.cellsOf 39 = 8 from by kernel_rfl] at hl
  have hlen0 : xs.length = 5 := hlen
  obtain ⟨y0, ys0, rfl, hlen1⟩ := uncons hlen0
  obtain ⟨y1, ys1, rfl, hlen2⟩ := uncons hlen1
  obtain ⟨y2, ys2, rfl, hlen3⟩ := uncons hlen2
  obtain ⟨y3, ys3, rfl, hlen4⟩ := uncons hlen3
  obtain ⟨y4, ys4, rfl, hlen5⟩ := uncons hlen4
  obtain rfl := List.length_eq_zero_iff.1 hlen5
  obtain ⟨c0, cs0, rfl, hl1⟩ := uncons hl
  obtain ⟨c1, cs1, rfl, hl2⟩ := uncons hl1
  obtain ⟨c2, cs2, rfl, hl3⟩ := uncons hl2
  obtain ⟨c3, cs3, rfl, hl4⟩ := uncons hl3
  obtain ⟨c4, cs4, rfl, hl5⟩ := uncons hl4
  obtain ⟨c5, cs5, rfl, hl6⟩ := uncons hl5
  obtain ⟨c6, cs6, rfl, hl7⟩ := uncons hl6
  obtain ⟨c7, cs7, rfl, hl8⟩ := uncons hl7
  obtain rfl := List.length_eq_zero_iff.1 hl8
  simp only [DataW.weights, Tryz.underlying39, List.map_cons, List.map_nil] at hw
  obtain ⟨w0, z0⟩ := weightsEach_cons hw
  obtain ⟨w1, z1⟩ := weightsEach_cons z0
  obtain ⟨w2, z2⟩ := weightsEach_cons z1
  obtain ⟨w3, z3⟩ := weightsEach_cons z2
  obtain ⟨w4, z4⟩ := weightsEach_cons z3
  have k3 : Tryz.prog.cellsOf 3 = 1 := by kernel_rfl
  have k4 : Tryz.prog.cellsOf 4 = 1 := by kernel_rfl
  have k9 : Tryz.prog.cellsOf 9 = 1 := by kernel_rfl
  have k37 : Tryz.prog.cellsOf 37 = 4 := by kernel_rfl
  have g0 : DataW.trod enc Tryz.prog w 0 (fun _ => true) true n 3 (List.take (Tryz.prog.cellsOf 3) (List.drop 0 [c0, c1, c2, c3, c4, c5, c6, c7])) = some y0 := hf 0 _ rfl
  rw [k3] at g0
  obtain ⟨x0, e0, b0⟩ := (opn_int Tryz.underlying3) enc w n [c0] y0 g0 w0
  have e0 : _ = fInt.enc x0 := e0
  replace e0 := (List.cons.inj e0).1
  have g1 : DataW.trod enc Tryz.prog w 0 (fun _ => true) true n 3 (List.take (Tryz.prog.cellsOf 3) (List.drop 1 [c0, c1, c2, c3, c4, c5, c6, c7])) = some y1 := hf 1 _ rfl
  rw [k3] at g1
  obtain ⟨x1, e1, b1⟩ := (opn_int Tryz.underlying3) enc w n [c1] y1 g1 w1
  have e1 : _ = fInt.enc x1 := e1
  replace e1 := (List.cons.inj e1).1
  have g2 : DataW.trod enc Tryz.prog w 0 (fun _ => true) true n 37 (List.take (Tryz.prog.cellsOf 37) (List.drop 2 [c0, c1, c2, c3, c4, c5, c6, c7])) = some y2 := hf 2 _ rfl
  rw [k37] at g2
  obtain ⟨x2, e2, b2⟩ := (opn_set Tryz.underlying37 Tryz.underlying35 (by kernel_rfl) (by kernel_rfl)) enc w n [c2, c3, c4, c5] y2 g2 w2
  have e2 : _ = fSet.enc x2 := e2
  have g3 : DataW.trod enc Tryz.prog w 0 (fun _ => true) true n 9 (List.take (Tryz.prog.cellsOf 9) (List.drop 6 [c0, c1, c2, c3, c4, c5, c6, c7])) = some y3 := hf 3 _ rfl
  rw [k9] at g3
  obtain ⟨x3, e3, b3⟩ := (opn_str Tryz.underlying9) enc w n [c6] y3 g3 w3
  have e3 : _ = fStr.enc x3 := e3
  replace e3 := (List.cons.inj e3).1
  have g4 : DataW.trod enc Tryz.prog w 0 (fun _ => true) true n 4 (List.take (Tryz.prog.cellsOf 4) (List.drop 7 [c0, c1, c2, c3, c4, c5, c6, c7])) = some y4 := hf 4 _ rfl
  rw [k4] at g4
  obtain ⟨x4, e4, b4⟩ := (opn_bool Tryz.underlying4) enc w n [c7] y4 g4 w4
  have e4 : _ = fBool.enc x4 := e4
  replace e4 := (List.cons.inj e4).1
  subst e0
  subst e1
  obtain ⟨rfl, rfl, rfl, rfl⟩ : c2 = w64 x2.a ∧ c3 = w64 x2.b ∧ c4 = w64 x2.c ∧ c5 = w64 x2.d := by simpa [fSet, sw] using e2
  subst e3
  subst e4
  exact ⟨⟨x0, x1, x2, x3, x4⟩, rfl, ⟨b0, b1, b2, b3, b4⟩⟩
theorem opn_s25 : Opn Tryz.prog 25 rGFst (fun x : GFst => (fun n : Int => -9223372036854775808 ≤ n ∧ n ≤ 9223372036854775807) x.States ∧ (fun l : List GTip => l.length * 24 ≤ 140737488351232 ∧ ∀ x ∈ l, (fun x : GTip => (fun n : Int => -9223372036854775808 ≤ n ∧ n ≤ 9223372036854775807) x.State ∧ (fun s : List UInt8 => s.length ≤ 140737488351232) x.Out) x) x.Starts ∧ (fun l : List GTip => l.length * 24 ≤ 140737488351232 ∧ ∀ x ∈ l, (fun x : GTip => (fun n : Int => -9223372036854775808 ≤ n ∧ n ≤ 9223372036854775807) x.State ∧ (fun s : List UInt8 => s.length ≤ 140737488351232) x.Out) x) x.Ends ∧ (fun l : List GArc => l.length * 72 ≤ 140737488351232 ∧ ∀ x ∈ l, (fun x : GArc => (fun n : Int => -9223372036854775808 ≤ n ∧ n ≤ 9223372036854775807) x.From ∧ (fun n : Int => -9223372036854775808 ≤ n ∧ n ≤ 9223372036854775807) x.To ∧ (fun _ : BSet => True) x.Set ∧ (fun s : List UInt8 => s.length ≤ 140737488351232) x.Out ∧ (fun _ : Bool => True) x.Copy) x) x.Arcs) := by
  intro D enc w fuel cs x h hw
  obtain ⟨xs, n, _, rfl, hl, hlen, hf⟩ := DataW.trod_struct Tryz.underlying25 h
  rw [show Tryz.prog.cellsOf 25 = 4 from by kernel_rfl] at hl
  have hlen0 : xs.length = 4 := hlen
  obtain ⟨y0, ys0, rfl, hlen1⟩ := uncons hlen0
  obtain ⟨y1, ys1, rfl, hlen2⟩ := uncons hlen1
  obtain ⟨y2, ys2, rfl, hlen3⟩ := uncons hlen2
  obtain ⟨y3, ys3, rfl, hlen4⟩ := uncons hlen3
  obtain rfl := List.length_eq_zero_iff.1 hlen4
  obtain ⟨c0, cs0, rfl, hl1⟩ := uncons hl
  obtain ⟨c1, cs1, rfl, hl2⟩ := uncons hl1
  obtain ⟨c2, cs2, rfl, hl3⟩ := uncons hl2
  obtain ⟨c3, cs3, rfl, hl4⟩ := uncons hl3
  obtain rfl := List.length_eq_zero_iff.1 hl4
  simp only [DataW.weights, Tryz.underlying25, List.map_cons, List.map_nil] at hw
  obtain ⟨w0, z0⟩ := weightsEach_cons hw
  obtain ⟨w1, z1⟩ := weightsEach_cons z0
  obtain ⟨w2, z2⟩ := weightsEach_cons z1
  obtain ⟨w3, z3⟩ := weightsEach_cons z2
  have k3 : Tryz.prog.cellsOf 3 = 1 := by kernel_rfl
  have k22 : Tryz.prog.cellsOf 22 = 1 := by kernel_rfl
  have k23 : Tryz.prog.cellsOf 23 = 1 := by kernel_rfl
  have g0 : DataW.trod enc Tryz.prog w 0 (fun _ => true) true n 3 (List.take (Tryz.prog.cellsOf 3) (List.drop 0 [c0, c1, c2, c3])) = some y0 := hf 0 _ rfl
  rw [k3] at g0
  obtain ⟨x0, e0, b0⟩ := (opn_int Tryz.underlying3) enc w n [c0] y0 g0 w0
  have e0 : _ = fInt.enc x0 := e0
  replace e0 := (List.cons.inj e0).1
  have g1 : DataW.trod enc Tryz.prog w 0 (fun _ => true) true n 22 (List.take (Tryz.prog.cellsOf 22) (List.drop 1 [c0, c1, c2, c3])) = some y1 := hf 1 _ rfl
  rw [k22] at g1
  obtain ⟨x1, e1, b1⟩ := (Opn.imp (q := (fun l : List GTip => l.length * 24 ≤ 140737488351232 ∧ ∀ x ∈ l, (fun x : GTip => (fun n : Int => -9223372036854775808 ≤ n ∧ n ≤ 9223372036854775807) x.State ∧ (fun s : List UInt8 => s.length ≤ 140737488351232) x.Out) x)) (opn_slice (e := 50) Tryz.underlying22 (by kernel_rfl) (by decide) opn_s50) fun _ h => ⟨by have := h.1; rw [show Tryz.prog.bytesOf 50 = 24 from by kernel_rfl] at this; exact this, h.2⟩) enc w n [c1] y1 g1 w1
  obtain ⟨u1, e1, s1⟩ := e1
  replace e1 := (List.cons.inj e1).1
  have g2 : DataW.trod enc Tryz.prog w 0 (fun _ => true) true n 22 (List.take (Tryz.prog.cellsOf 22) (List.drop 2 [c0, c1, c2, c3])) = some y2 := hf 2 _ rfl
  rw [k22] at g2
  obtain ⟨x2, e2, b2⟩ := (Opn.imp (q := (fun l : List GTip => l.length * 24 ≤ 140737488351232 ∧ ∀ x ∈ l, (fun x : GTip => (fun n : Int => -9223372036854775808 ≤ n ∧ n ≤ 9223372036854775807) x.State ∧ (fun s : List UInt8 => s.length ≤ 140737488351232) x.Out) x)) (opn_slice (e := 50) Tryz.underlying22 (by kernel_rfl) (by decide) opn_s50) fun _ h => ⟨by have := h.1; rw [show Tryz.prog.bytesOf 50 = 24 from by kernel_rfl] at this; exact this, h.2⟩) enc w n [c2] y2 g2 w2
  obtain ⟨u2, e2, s2⟩ := e2
  replace e2 := (List.cons.inj e2).1
  have g3 : DataW.trod enc Tryz.prog w 0 (fun _ => true) true n 23 (List.take (Tryz.prog.cellsOf 23) (List.drop 3 [c0, c1, c2, c3])) = some y3 := hf 3 _ rfl
  rw [k23] at g3
  obtain ⟨x3, e3, b3⟩ := (Opn.imp (q := (fun l : List GArc => l.length * 72 ≤ 140737488351232 ∧ ∀ x ∈ l, (fun x : GArc => (fun n : Int => -9223372036854775808 ≤ n ∧ n ≤ 9223372036854775807) x.From ∧ (fun n : Int => -9223372036854775808 ≤ n ∧ n ≤ 9223372036854775807) x.To ∧ (fun _ : BSet => True) x.Set ∧ (fun s : List UInt8 => s.length ≤ 140737488351232) x.Out ∧ (fun _ : Bool => True) x.Copy) x)) (opn_slice (e := 39) Tryz.underlying23 (by kernel_rfl) (by decide) opn_s39) fun _ h => ⟨by have := h.1; rw [show Tryz.prog.bytesOf 39 = 72 from by kernel_rfl] at this; exact this, h.2⟩) enc w n [c3] y3 g3 w3
  obtain ⟨u3, e3, s3⟩ := e3
  replace e3 := (List.cons.inj e3).1
  subst e0
  subst e1
  subst e2
  subst e3
  exact ⟨⟨x0, x1, x2, x3⟩, ⟨_, _, _, rfl, s1, s2, s3⟩, ⟨b0, b1, b2, b3⟩⟩
set_option maxRecDepth 100000 in
theorem lifted (os : Os) (started : os.Started) (H : Type) (enc : TypeId × Value → H) :
    ReturnsInHanded {} Tryz.checked os 3 .any (Rows.funTellsSpec.pre6 enc Tryz.prog Tryz.f3 Rows.funTellsRow.domain false) (Rows.funTellsSpec.post enc Tryz.prog Tryz.f3 false true false false) := by
  refine returnsInHanded_of_change_sized (C := Tryz.checked) own started (by kernel_rfl) Tryz.func3
    (ChangeSpec.witness6 (enc := enc) (C := Tryz.checked) false ⟨#[], #[.agg #[.int .i64 0, .slice none 0 0, .slice none 0 0, .slice none 0 0]], []⟩ 8 (by kernel_rfl) (by kernel_rfl) (by kernel_rfl) (by kernel_rfl)) ?_
  intro W base args ds gs before hval0 hW hcnd hsz _
  have hval : ∀ (j : Nat) t v, Tryz.f3.params[j]? = some t → args[j]? = some v → Value.okWide Tryz.prog W .any base t v := hval0
  have hW' := hW
  obtain ⟨p, q, hA0, hV, rfl, hfz, hnd⟩ := hW
  have hA : DataW.TrodAll enc Tryz.prog W 0 (fun _ => true) true Tryz.f3.params.toList args.toList ds p := hA0
  have hsz' : (DataW.weightsEach Tryz.prog (Tryz.f3.params.toList ++ Rows.funTellsSpec.plain.varTypes Tryz.prog) (ds ++ gs)).all (· ≤ reachBytes) = true := hsz
  rw [Tryz.params3] at hA hval hsz'
  obtain ⟨v0, vs0, d0, ds0, p0, q0, hargs, rfl, rfl, h0, r0⟩ := trodAll_cons hA
  obtain ⟨rfl, rfl, rfl⟩ := trodAll_nil r0
  obtain rfl : args = #[v0] := by cases args; simp_all
  obtain ⟨rfl, rfl⟩ := trodVars_none hV
  obtain ⟨s0, z0⟩ := weightsEach_cons hsz'
  obtain ⟨y0, x0, b0⟩ := trod_open opn_s25 h0 s0
  obtain ⟨c0, rfl, _⟩ := okWide_struct Tryz.underlying25 (hval 0 25 v0 rfl rfl)
  obtain ⟨u0_1, u0_2, u0_3, e0, x0_1, x0_2, x0_3⟩ := x0
  obtain rfl : c0 = (([.int .i64 y0.States, u0_1, u0_2, u0_3] : List Value)).toArray := Array.toList_inj.1 e0
  clear hA0 hval0
  simp only [List.append_nil] at hW'
  refine (calls_of_hc (law_true (lFunTells_spec (a0 := y0) (by have h1 := b0.2.1.1; have h2 := b0.2.2.1.1; have h3 := b0.2.2.2.1; dsimp only at *; exact ⟨⟨by omega, by omega, by omega⟩, fun x hx => (b0.2.1.2 x hx).2, fun x hx => (b0.2.2.1.2 x hx).2, fun x hx => (b0.2.2.2.2 x hx).2.2.2.1⟩) (Own.start W.heap) (Fz.law x0_1) (Fz.law x0_2) (Fz.law x0_3))) rfl).mono fun e W' ⟨v, he, henv, hv, hx⟩ => ?_
  subst hv
  exact ⟨_, he, post_true laid (by rw [Tryz.params3]; simp only [List.forall_mem_cons]; exact ⟨⟨by kernel_rfl, of_decide_eq_true (by kernel_rfl)⟩, by simp⟩) rfl Tryz.underlying4 rfl rfl hW' henv hx⟩
theorem over : Rows.funTellsRow.holds Tryz.pinned (OpenSpec.ofChange Rows.funTellsSpec) :=
  OpenClaim.holds_of_wide 3 Tryz.f3 rfl rfl rfl rfl rfl rfl rfl ⟨rfl, rfl, rfl, rfl, rfl⟩ rfl rfl rfl rfl rfl (by kernel_rfl) Tryz.func3 (by kernel_rfl)
    (of_decide_eq_true (by kernel_rfl)) (by unfold Func.isWrapper; first | (rw [if_pos (by decide +kernel)]; kernel_rfl) | (rw [if_neg (by decide +kernel)]; exact ⟨rfl, rfl⟩))
    (fun os started H enc _ => lifted os started H enc)
/-- The statement. -/
theorem proved : Rows.FunTellsSaid := over
end Go.Proofs.YtaopgjfioabfpaaGreat.funTells
