/- Regions that draw their order and change the heap: one schedule serves every order. No condition. -/
import Derived.Test.YtbaciogbhjcdoaaGlue
set_option linter.unusedSimpArgs false
set_option linter.unusedVariables false
namespace Go.Proofs.Ytbaciogbhjcdoaa

/-- operations that yield a value of themselves -/
def plainOp : Op → Bool
  | .move _ | .assign _ | .pick .. | .load .. | .binOp .. | .unOp .. | .convert .. | .makeFunc .. | .slice .. | .fieldAddr .. | .field .. | .indexAddr .. | .index .. | .lookup .. | .extract .. | .build .. => true
  | .call ⟨.builtin .len, _, _⟩ => true
  | .nilCheck _ => true
  | _ => false

theorem plain_value {op : Op} (h : plainOp op = true) (ty : TypeId) (ρ : Operand → Value) {P : Program} {w w' : World} {x : Next} (hr : (execOp ρ (opx op ty)).run P w = .ok x w') : ∃ v, x = .value v := by
  have key : ∀ (s : Sem Value), (do pure (Next.value (← s)) : Sem Next).run P w = .ok x w' → ∃ v, x = .value v := by
    intro s hs
    simp only [Sem.run_bind] at hs
    cases he : s.run P w with
    | halt a b => rw [he] at hs; cases hs
    | ok a b => rw [he] at hs; cases hs; exact ⟨_, rfl⟩
  have pv : ∀ (v : Value), (pure (Next.value v) : Sem Next).run P w = .ok x w' → ∃ v, x = .value v := by
    intro v hs; cases hs; exact ⟨_, rfl⟩
  have aux : ∀ {α : Type} (s : Sem α) (k : α → Sem Next), (∀ a w1 x w2, (k a).run P w1 = .ok x w2 → ∃ v, x = .value v) → ∀ w x w', (s >>= k).run P w = .ok x w' → ∃ v, x = .value v := by
    intro α s k hk w x w' hs
    simp only [Sem.run_bind] at hs
    cases he : s.run P w with
    | halt a b => rw [he] at hs; cases hs
    | ok a b => rw [he] at hs; exact hk a b x w' hs
  cases op with
  | nilCheck y =>
    simp only [opx, execOp] at hr
    split at hr
    · simp [runtimePanic] at hr
    · simp [runtimePanic] at hr
    · simp [runtimePanic] at hr
    · split at hr
      · simp [runtimePanic] at hr
      · refine aux _ _ (fun a w1 x w2 h => aux _ _ (fun b w3 x w4 h => ?_) _ _ _ h) _ _ _ hr
        split at h
        · refine aux _ _ (fun c w5 x w6 h => ?_) _ _ _ h
          cases h; exact ⟨_, rfl⟩
        · cases h; exact ⟨_, rfl⟩
      · exact pv _ hr
    · exact pv _ hr
  | move x => exact pv _ hr
  | assign x => exact pv _ hr
  | pick c x y =>
    simp only [opx, execOp, Sem.run_bind] at hr
    cases he : (asBool (ρ c)).run P w with
    | halt a b => rw [he] at hr; cases hr
    | ok a b => rw [he] at hr; cases hr; exact ⟨_, rfl⟩
  | call c =>
    obtain ⟨cal, as, tys⟩ := c
    cases cal with
    | builtin b =>
      cases b <;> simp [plainOp] at h
      simp only [opx, execOp, resolve, Sem.run_bind, Sem.run_pure, Result.andThen_ok, invoke, builtin] at hr
      exact key _ (by simpa using hr)
    | _ => simp [plainOp] at h
  | _ => first | (simp [plainOp] at h; done) | exact key _ hr

/-- a schedule: which operation comes, alone (true) or taken first (false); where two may come, both ways -/
inductive Sch where
  | done
  | step (i : Nat) (b : Bool) (r : Sch)
  | two (i j : Nat) (r s : Sch)
def Sch.depth : Sch → Nat
  | .done => 0
  | .step _ _ r => r.depth + 1
  | .two _ _ r s => max r.depth s.depth + 1
inductive Tr where
  | done
  | step (b : Bool) (o : Oper) (r : Tr)
  | two (o p : Oper) (r s : Tr)
/-- the operations of a schedule -/
def pickOps (l0 : List Oper) : Sch → Tr
  | .done => .done
  | .step i b r => match l0[i]? with
    | some o => .step b o (pickOps l0 r)
    | none => pickOps l0 r
  | .two i j r s => match l0[i]?, l0[j]? with
    | some o, some p => .two o p (pickOps l0 r) (pickOps l0 s)
    | _, _ => .done

/-- Is it a schedule? true: the operation is the only one that may come; false: it may be taken first. -/
def sched (l0 : List Oper) : Sch → Array Bool → Bool
  | .two i j r s, listed => (l0[i]?).isSome && (l0[j]?).isSome && (Region.ready .any l0.toArray listed == [i, j]) && sched l0 r (listed.setIfInBounds i true) && sched l0 s (listed.setIfInBounds j true)
  | .done, listed => (Region.ready .any l0.toArray listed).isEmpty
  | .step i b r, listed => (l0[i]?).isSome && (if b then Region.ready .any l0.toArray listed == [i] else Region.free .any l0.toArray listed i && (Region.ready .any l0.toArray listed).contains i) && sched l0 r (listed.setIfInBounds i true)

/-- The schedule's operations, one behind the other. -/
def HDr (P : Program) (l0 : List Oper) (St : Heap → Prop) (Qf : Act → World → Prop) (Qe : Exit → Act → World → Prop) : Tr → Act → World → Prop
  | .done, a, w => Qf a w
  | .two o p r s, a, w => (if Region.wanted o (yielded l0.toArray a.tmps) then o.wp P a w (fun a' w' => St w'.heap ∧ HDr P l0 St Qf Qe r a' w') Qe else HDr P l0 St Qf Qe r (a.put o.dst undef) w) ∧
      (if Region.wanted p (yielded l0.toArray a.tmps) then p.wp P a w (fun a' w' => St w'.heap ∧ HDr P l0 St Qf Qe s a' w') Qe else HDr P l0 St Qf Qe s (a.put p.dst undef) w)
  | .step false o r, a, w => ∃ v, YieldsIf P l0.toArray (fun w => St w.heap) o v a ∧ HDr P l0 St Qf Qe r (a.put o.dst v) w
  | .step true o r, a, w => if Region.wanted o (yielded l0.toArray a.tmps) then o.wp P a w (fun a' w' => St w'.heap ∧ HDr P l0 St Qf Qe r a' w') Qe else HDr P l0 St Qf Qe r (a.put o.dst undef) w

def QF (N : Nat) (w0 : World) (Q : Frm → Heap → Prop) : Act → World → Prop := fun a w => Env w0 w ∧ ∃ f, FS (N, none) f a w.heap ∧ Q f w.heap
def QE (N : Nat) (w0 : World) (Q : Frm → Heap → Prop) : Exit → Act → World → Prop := fun e a w => e = .normal ∧ QF N w0 Q a w

def HD (P : Program) (N : Nat) (l0 : List Oper) (St : Heap → Prop) (l : Tr) (Q : Frm → Heap → Prop) (f : Frm) (H : Heap) : Prop :=
  ∀ w0 a w, FS (N, none) f a H → w.heap = H → Env w0 w → HDr P l0 St (QF N w0 Q) (QE N w0 Q) l a w

section
variable {P : Program} {N : Nat} {Q : Post} {f : Frm} {H : Heap} {St : Heap → Prop}

theorem hd_sound {l0 : List Oper} (hs : Region.noSelect l0.toArray = true) {Qf : Act → World → Prop} {Qe : Exit → Act → World → Prop} (hQ : ∀ a w, Qf a w → Qe .normal a w) (hp : ∀ c a w, ¬ Qe (.panic c) a w) :
    ∀ (π : Sch) (fuel : Nat) (listed : Array Bool) (a : Act) (w : World), sched l0 π listed = true → π.depth ≤ fuel → St w.heap → HDr P l0 St Qf Qe (pickOps l0 π) a w →
      wpAnyH P .any l0.toArray Qe (fun w => St w.heap) fuel listed a w := by
  intro π
  induction π with
  | done =>
    intro fuel listed a w hB _ hS h
    simp only [sched, List.isEmpty_iff] at hB
    exact wpAnyH_done hB (hQ a w h) fuel
  | two i j r s ihr ihs =>
    intro fuel listed a w hB hlen hS h
    cases fuel with
    | zero => simp [Sch.depth] at hlen
    | succ fuel =>
      simp only [Sch.depth] at hlen
      simp only [sched, Bool.and_eq_true, beq_iff_eq] at hB
      obtain ⟨⟨⟨⟨h1, h1'⟩, h2⟩, h3⟩, h3'⟩ := hB
      obtain ⟨o, ho⟩ := Option.isSome_iff_exists.1 h1
      obtain ⟨o', ho'⟩ := Option.isSome_iff_exists.1 h1'
      simp only [pickOps, ho, ho', HDr] at h
      have ha : l0.toArray[i]? = some o := by simpa using ho
      have hb : l0.toArray[j]? = some o' := by simpa using ho'
      refine wpAnyH_all h2 (by simp) fun k hk => ?_
      simp only [List.mem_cons, List.not_mem_nil, or_false] at hk
      rcases hk with rfl | rfl
      · have h := h.1
        unfold wpOp
        simp only [ha]
        split
        · rename_i hw; rw [if_pos hw] at h
          exact .inl (Oper.wp_mono (fun a' w' ⟨k1, k2⟩ => ⟨k1, ihr fuel _ a' w' h3 (by omega) k1 k2⟩) h)
        · rename_i hw; rw [if_neg hw] at h
          exact ⟨hS, ihr fuel _ _ w h3 (by omega) hS h⟩
      · have h := h.2
        unfold wpOp
        simp only [hb]
        split
        · rename_i hw; rw [if_pos hw] at h
          exact .inl (Oper.wp_mono (fun a' w' ⟨k1, k2⟩ => ⟨k1, ihs fuel _ a' w' h3' (by omega) k1 k2⟩) h)
        · rename_i hw; rw [if_neg hw] at h
          exact ⟨hS, ihs fuel _ _ w h3' (by omega) hS h⟩
  | step i b π ih =>
    intro fuel listed a w hB hlen hS h
    cases fuel with
    | zero => simp [Sch.depth] at hlen
    | succ fuel =>
      simp only [Sch.depth] at hlen
      simp only [sched, Bool.and_eq_true] at hB
      obtain ⟨⟨h1, h2⟩, h3⟩ := hB
      obtain ⟨o, ho⟩ := Option.isSome_iff_exists.1 h1
      have ho' : l0.toArray[i]? = some o := by simpa using ho
      simp only [pickOps, ho] at h
      cases b with
      | false =>
        simp only [Bool.false_eq_true, if_false, Bool.and_eq_true] at h2
        obtain ⟨v, h4, h5⟩ := h
        exact wpAnyH_take ho' hs h2.1 h2.2 (fun c a w hh => (hp c _ w hh).elim) h4 hS (ih fuel _ _ w h3 (by omega) hS h5)
      | true =>
        simp only [if_true, beq_iff_eq] at h2
        refine wpAnyH_all h2 (by simp) fun j hj => ?_
        obtain rfl : j = i := by simpa using hj
        unfold wpOp
        simp only [ho']
        simp only [HDr] at h
        split
        · rename_i hw; rw [if_pos hw] at h
          exact .inl (Oper.wp_mono (fun a' w' ⟨k1, k2⟩ => ⟨k1, ih fuel _ a' w' h3 (by omega) k1 k2⟩) h)
        · rename_i hw; rw [if_neg hw] at h
          exact ⟨hS, ih fuel _ _ w h3 (by omega) hS h⟩

/-! ### a region whose last operations wait for all others -/
/-- Each of the last operations waits for each of the first k; the first ones look at one another alone. -/
def tailOk (pre suf : List Oper) : Bool :=
  suf.all (fun z => (List.range pre.length).all fun i => z.after.any fun e => e.on == i && Region.binds .any e) &&
  pre.zipIdx.all (fun (o, i) => o.after.all (fun e => !Region.binds .any e || Nat.blt e.on i) && (match o.guard with | none => true | some (j, _) => Nat.blt j pre.length))

theorem ready_pre {pre suf : List Oper} (hB : tailOk pre suf = true) {la : Array Bool} (hla : la.size = pre.length) (hne : Region.ready .any pre.toArray la ≠ []) :
    Region.ready .any (pre ++ suf).toArray (la ++ Array.replicate suf.length false) = Region.ready .any pre.toArray la := by
  simp only [tailOk, Bool.and_eq_true, List.all_eq_true] at hB
  obtain ⟨h1, h2⟩ := hB
  obtain ⟨i0, hi0⟩ := List.exists_mem_of_ne_nil _ hne
  have hi1 := (mem_ready.1 hi0).1
  have hi2 : i0 < pre.length := by
    rcases Nat.lt_or_ge i0 pre.length with h | h
    · exact h
    · simp [hla, h] at hi1
  unfold Region.ready
  simp only [List.size_toArray, List.length_append, List.range_add, List.filter_append, List.getElem?_toArray]
  have e1 : (List.range pre.length).filter (fun i => !(la ++ Array.replicate suf.length false).getD i true && (((pre ++ suf)[i]?).map (fun x => x.after.all fun e => !Region.binds .any e || (la ++ Array.replicate suf.length false).getD e.on false)).getD false) =
      (List.range pre.length).filter (fun i => !la.getD i true && ((pre[i]?).map (fun x => x.after.all fun e => !Region.binds .any e || la.getD e.on false)).getD false) := by
    apply List.filter_congr
    intro i hi
    have hi : i < pre.length := by simpa using hi
    have g1 : ∀ j, j < pre.length → ∀ d, (la ++ Array.replicate suf.length false).getD j d = la.getD j d := by
      intro j hj d
      simp [Array.getD_eq_getD_getElem?, Array.getElem?_append, hla, hj]
    rw [g1 i hi, List.getElem?_append_left hi]
    congr 1
    have hz : (pre[i], i) ∈ pre.zipIdx := by rw [List.mem_zipIdx_iff_getElem?]; simp [hi]
    have h3 := h2 _ hz
    simp only [Bool.and_eq_true] at h3
    rw [List.getElem?_eq_getElem hi]
    simp only [Option.map_some, Option.getD_some]
    have h4 := h3.1
    rw [Array.all_eq_true'] at h4
    apply Bool.eq_iff_iff.2
    rw [Array.all_eq_true', Array.all_eq_true']
    constructor <;> intro h e he <;> have h5 := h e he <;> have h6 := h4 e he <;> simp only [Bool.or_eq_true, Bool.not_eq_true'] at h5 h6 ⊢ <;> rcases h6 with h6 | h6
    · exact .inl h6
    · rcases h5 with h5 | h5
      · exact .inl h5
      · have := blt_lt h6; rw [g1 _ (by omega)] at h5; exact .inr h5
    · exact .inl h6
    · rcases h5 with h5 | h5
      · exact .inl h5
      · have := blt_lt h6; rw [g1 _ (by omega)]; exact .inr h5
  rw [e1]
  have e2 : ((List.range suf.length).map (pre.length + ·)).filter (fun i => !(la ++ Array.replicate suf.length false).getD i true && (((pre ++ suf)[i]?).map (fun x => x.after.all fun e => !Region.binds .any e || (la ++ Array.replicate suf.length false).getD e.on false)).getD false) = [] := by
    rw [List.filter_eq_nil_iff]
    intro i hi
    simp only [List.mem_map, List.mem_range] at hi
    obtain ⟨j, hj, rfl⟩ := hi
    rw [List.getElem?_append_right (by omega), show pre.length + j - pre.length = j by omega, List.getElem?_eq_getElem hj]
    simp only [Option.map_some, Option.getD_some]
    have h3 := h1 suf[j] (List.getElem_mem hj) i0 (by simpa using hi2)
    rw [Array.any_eq_true'] at h3
    obtain ⟨e, he, h4⟩ := h3
    simp only [Bool.and_eq_true, beq_iff_eq] at h4
    intro hc
    simp only [Bool.and_eq_true] at hc
    have h5 := hc.2
    rw [Array.all_eq_true'] at h5
    have h6 := h5 e he
    rw [h4.1, h4.2] at h6
    have h7 : (la ++ Array.replicate suf.length false).getD i0 false = la.getD i0 false := by
      simp [Array.getD_eq_getD_getElem?, Array.getElem?_append, hla, hi2]
    rw [h7] at h6
    simp only [Bool.not_true, Bool.false_or] at h6
    have h8 : la.getD i0 true = la.getD i0 false := by simp [Array.getD_eq_getD_getElem?, hla, hi2]
    rw [h8, h6] at hi1
    cases hi1
  rw [e2, List.append_nil]

theorem Oper.wp_only {P : Program} {o : Oper} {a : Act} {w : World} {K K2 : Act → World → Prop} {Q' Q : Exit → Act → World → Prop} (hp : ∀ e a w, Q' e a w → e = .normal) (hk : ∀ a w, K a w → K2 a w) (h : o.wp P a w K Q') : o.wp P a w K2 Q := by
  unfold Oper.wp at *
  generalize (execOp a.eval o).run P w = r at *
  cases r with
  | ok n w' =>
    cases n <;> simp only [Oper.upon] at h ⊢ <;>
      first
        | exact hk _ _ h
        | exact Calls.mono h (fun e w'' he => by
            cases e with
            | returned v => exact hk _ _ he
            | panicked c => cases hp _ _ _ he
            | outgrown => obtain ⟨a1, w1, he⟩ := he; cases hp _ _ _ he)
        | exact Rows.mono h (fun _ _ he => hk _ _ he)
  | halt x w' =>
    cases x <;> simp only [Oper.upon] at h ⊢
    cases hp _ _ _ h

theorem wpAny_more {P : Program} {ops : Array Oper} {Q : Exit → Act → World → Prop} {md : Region.Mode} : ∀ (n m : Nat) (la : Array Bool) (a : Act) (w : World), wpAny P md ops Q n la a w → wpAny P md ops Q (m + n) la a w
  | 0, 0, _, _, _, h => h
  | 0, m + 1, la, a, w, h => by
    refine ⟨fun _ => h.2, ?_⟩
    rw [h.1]; simp
  | n + 1, m, la, a, w, h => ⟨h.1, fun i hi => wpOp_mono (fun a' w' h' => wpAny_more n m _ a' w' h') (h.2 i hi)⟩

theorem all_listed {pre suf : List Oper} (hB : tailOk pre suf = true) {la : Array Bool} (hla : la.size = pre.length) (hr : Region.ready .any pre.toArray la = []) : la = Array.replicate pre.length true := by
  simp only [tailOk, Bool.and_eq_true, List.all_eq_true] at hB
  obtain ⟨_, h2⟩ := hB
  have key : ∀ n i, i < n → i < pre.length → la.getD i false = true := by
    intro n
    induction n with
    | zero => intro i hi; omega
    | succ n ih =>
      intro i hi hl
      cases hc : la.getD i false with
      | true => rfl
      | false =>
        exfalso
        have hz : (pre[i], i) ∈ pre.zipIdx := by rw [List.mem_zipIdx_iff_getElem?]; simp [hl]
        have h3 := h2 _ hz
        have h4 := h3.1
        rw [Array.all_eq_true'] at h4
        have hmem : i ∈ Region.ready .any pre.toArray la := by
          refine mem_ready.2 ⟨?_, pre[i], by simp [hl], fun e he hb => ?_⟩
          · have : la.getD i true = la.getD i false := by simp [Array.getD_eq_getD_getElem?, hla, hl]
            rw [this, hc]
          · have h5 := h4 e he
            rw [hb] at h5
            have h6 := blt_lt (by simpa using h5)
            exact ih _ (by omega) (by omega)
        rw [hr] at hmem
        cases hmem
  apply Array.ext
  · simp [hla]
  · intro i h3 h4
    have := key (i + 1) i (by omega) (by omega)
    simp [Array.getD_eq_getD_getElem?, h3] at this
    simp [this]

theorem wpAny_prefix {P : Program} {pre suf : List Oper} (hB : tailOk pre suf = true) {Q' Q : Exit → Act → World → Prop} (hp : ∀ e a w, Q' e a w → e = .normal)
    (hend : ∀ a w, Q' .normal a w → wpAny P .any (pre ++ suf).toArray Q suf.length (Array.replicate pre.length true ++ Array.replicate suf.length false) a w) :
    ∀ (n : Nat) (la : Array Bool) (a : Act) (w : World), la.size = pre.length → wpAny P .any pre.toArray Q' n la a w → wpAny P .any (pre ++ suf).toArray Q (n + suf.length) (la ++ Array.replicate suf.length false) a w := by
  have fin : ∀ (n : Nat) (la : Array Bool) (a : Act) (w : World), la.size = pre.length → Region.ready .any pre.toArray la = [] → Q' .normal a w → wpAny P .any (pre ++ suf).toArray Q (n + suf.length) (la ++ Array.replicate suf.length false) a w := by
    intro n la a w hla hr hq
    rw [all_listed hB hla hr]
    exact wpAny_more _ _ _ _ _ (hend a w hq)
  intro n
  induction n with
  | zero => intro la a w hla h; exact fin 0 la a w hla h.1 h.2
  | succ n ih =>
    intro la a w hla h
    by_cases hr : Region.ready .any pre.toArray la = []
    · exact fin _ la a w hla hr (h.1 hr)
    · have he := ready_pre hB hla hr
      rw [show n + 1 + suf.length = (n + suf.length) + 1 by omega]
      refine ⟨fun h0 => absurd (he ▸ h0) hr, fun i hi => ?_⟩
      rw [he] at hi
      have hi2 : i < pre.length := by
        obtain ⟨_, o, ho, _⟩ := mem_ready.1 hi
        have := (Array.getElem?_eq_some_iff.1 ho).1
        simpa using this
      have h3 := h.2 i hi
      have hset : (la ++ Array.replicate suf.length false).setIfInBounds i true = la.setIfInBounds i true ++ Array.replicate suf.length false := by
        apply Array.ext_getElem?
        intro j
        simp only [Array.getElem?_setIfInBounds, Array.getElem?_append, Array.size_append, Array.size_setIfInBounds, hla]
        by_cases hij : i = j
        · subst hij; simp [hi2]; omega
        · simp [hij]
      rw [hset]
      have hy : yielded (pre ++ suf).toArray a.tmps = yielded (pre ++ suf).toArray a.tmps := rfl
      unfold wpOp at h3 ⊢
      have e1 : (pre ++ suf).toArray[i]? = some pre[i] := by simp [List.getElem?_append_left hi2, hi2]
      have e2 : pre.toArray[i]? = some pre[i] := by simp [hi2]
      rw [e2] at h3
      rw [e1]
      simp only at h3 ⊢
      have e3 : Region.wanted pre[i] (yielded (pre ++ suf).toArray a.tmps) = Region.wanted pre[i] (yielded pre.toArray a.tmps) := by
        simp only [tailOk, Bool.and_eq_true, List.all_eq_true] at hB
        have hz : (pre[i], i) ∈ pre.zipIdx := by rw [List.mem_zipIdx_iff_getElem?]; simp [hi2]
        have h4 := (hB.2 _ hz).2
        unfold Region.wanted
        cases hg : pre[i].guard with
        | none => rfl
        | some p =>
          obtain ⟨j, want⟩ := p
          rw [hg] at h4
          have hj := blt_lt h4
          simp only [yielded, List.getElem?_toArray, List.getElem?_append_left hj]
      rw [e3]
      split
      · rename_i hw
        rw [if_pos hw] at h3
        rcases h3 with h3 | ⟨_, a1, w1, h3⟩
        · exact .inl (Oper.wp_only hp (fun a' w' k => ih _ a' w' (by simpa using hla) k) h3)
        · cases hp _ _ _ h3
      · rename_i hw
        rw [if_neg hw] at h3
        exact ih _ _ w (by simpa using hla) h3

/-- k operations in whatever order their edges allow, then the others one behind the other -/
theorem hw_held2 {P : Program} {N : Nat} {Q : Post} {f : Frm} {H : Heap} {id : Nat} {l : List Oper} (k : Nat) (St : Heap → Prop) (π π2 : Sch) (hm : P.follows .mixedOrders = true)
    (hB : (tailOk (l.take k) (l.drop k) && Region.noSelect (l.take k).toArray && Region.noSelect l.toArray && sched (l.take k) π (Array.replicate (l.take k).length false) && sched l π2 (Array.replicate (l.take k).length true ++ Array.replicate (l.drop k).length false) && Nat.ble π.depth (l.take k).length && Nat.ble π2.depth (l.drop k).length) = true) (hS : St H)
    (h : HD P N (l.take k) St (pickOps (l.take k) π) (fun f' H' => HD P N l (fun _ => True) (pickOps l π2) (fun f' H' => Q .normal f' H') f' H') f H) : HW P none (N, none) (.region id l.toArray true) Q f H := by
  intro w0 a w h1 h2 h3
  simp only [Bool.and_eq_true] at hB
  obtain ⟨⟨⟨⟨⟨⟨b1, b2⟩, b3⟩, b4⟩, b5⟩, b6⟩, b7⟩ := hB
  refine wpIn_wide.2 ?_
  refine Code.wp_mono (Q := QE N w0 (fun f' H' => Q .normal f' H')) (fun e a w k => by obtain ⟨rfl, k2⟩ := k; exact k2) ?_
  refine wp_region_any hm ?_
  subst h2
  have hl : l.take k ++ l.drop k = l := List.take_append_drop k l
  have hn : l.toArray.size = (l.take k).length + (l.drop k).length := by rw [← List.length_append, hl]; simp
  have first := hd_sound (Qf := QF N w0 (fun f' H' => HD P N l (fun _ => True) (pickOps l π2) (fun f' H' => Q .normal f' H') f' H')) (Qe := QE N w0 (fun f' H' => HD P N l (fun _ => True) (pickOps l π2) (fun f' H' => Q .normal f' H') f' H')) b2 (fun a w k => ⟨rfl, k⟩) (fun c a w k => by cases k.1) π (l.take k).length (Array.replicate (l.take k).length false) a { w with drawn := w.drawn + 1 } b4 (Nat.le_of_ble_eq_true b6) hS (h w0 a _ h1 rfl (h3.trans ⟨rfl, rfl, rfl, .refl _, Nat.le_succ _⟩))
  have second : ∀ a w, QE N w0 (fun f' H' => HD P N l (fun _ => True) (pickOps l π2) (fun f' H' => Q .normal f' H') f' H') .normal a w →
      wpAny P .any (l.take k ++ l.drop k).toArray (QE N w0 (fun f' H' => Q .normal f' H')) (l.drop k).length (Array.replicate (l.take k).length true ++ Array.replicate (l.drop k).length false) a w := by
    rintro a w ⟨_, henv, f', hf, hh⟩
    rw [hl]
    exact wpAny_of_held _ _ _ _ (hd_sound (St := fun _ => True) (Qf := QF N w0 (fun f' H' => Q .normal f' H')) b3 (fun a w k => ⟨rfl, k⟩) (fun c a w k => by cases k.1) π2 _ _ a w b5 (Nat.le_of_ble_eq_true b7) trivial (hh w0 a w hf rfl henv))
  have all := wpAny_prefix (Q := QE N w0 (fun f' H' => Q .normal f' H')) b1 (fun e a w k => k.1) second _ _ a _ (by simp) (wpAny_of_held _ _ _ _ first)
  rw [hl] at all
  rw [hn]
  have e1 : Array.replicate ((l.take k).length + (l.drop k).length) false = Array.replicate (l.take k).length false ++ Array.replicate (l.drop k).length false := by simp
  rw [e1]
  exact all

theorem hw_held {id : Nat} {l : List Oper} (St : Heap → Prop) (π : Sch) (hm : P.follows .mixedOrders = true) (hB : (Region.noSelect l.toArray && sched l π (Array.replicate l.length false) && Nat.ble π.depth l.length) = true) (hS : St H)
    (h : HD P N l St (pickOps l π) (fun f' H' => Q .normal f' H') f H) : HW P none (N, none) (.region id l.toArray true) Q f H := by
  intro w0 a w h1 h2 h3
  simp only [Bool.and_eq_true] at hB
  obtain ⟨⟨b1, b2⟩, b3⟩ := hB
  refine wpIn_wide.2 ?_
  refine Code.wp_mono (Q := QE N w0 (fun f' H' => Q .normal f' H')) (fun e a w k => by obtain ⟨rfl, k2⟩ := k; exact k2) ?_
  refine wp_region_held (S := fun w => St w.heap) hm ?_
  subst h2
  exact hd_sound (Qf := QF N w0 (fun f' H' => Q .normal f' H')) b1 (fun a w k => ⟨rfl, k⟩) (fun c a w k => by cases k.1) π _ _ a _ (by simpa using b2) (by simpa using Nat.le_of_ble_eq_true b3) hS (h w0 a _ h1 rfl (h3.trans ⟨rfl, rfl, rfl, .refl _, Nat.le_succ _⟩))

variable {l0 : List Oper} {rest : Tr} {d : Nat} {op : Op} {ty : TypeId} {p : String} {af : Array Edge} {j : Nat} {want : Bool} {Q : Frm → Heap → Prop}

theorem FS.any {N : Nat} {f : Frm} {a : Act} {H H' : Heap} (h : FS (N, none) f a H) : FS (N, none) f a H' := ⟨h.1, h.2⟩
theorem hd_nil (h : Q f H) : HD P N l0 St .done Q f H := fun _ _ _ h1 h2 h3 => ⟨h3, f, h1.any, h2 ▸ h⟩
theorem hd_two {o o' : Oper} {r s : Tr} (k : HD P N l0 St (.step true o r) Q f H) (k' : HD P N l0 St (.step true o' s) Q f H) : HD P N l0 St (.two o o' r s) Q f H := fun w0 a w h1 h2 h3 => ⟨k w0 a w h1 h2 h3, k' w0 a w h1 h2 h3⟩
theorem hd_sub (g : Frm) (hg : AllIn f g) {l : Tr} (k : HD P N l0 St l Q g H) : HD P N l0 St l Q f H := fun w0 a w h1 h2 h3 => k w0 a w (h1.sub hg) h2 h3

theorem OpV.run {v : Value} {dd : Option Tmp} {g : Option (Nat × Bool)} (hp : plainOp op = true) (h : OpV P (N, none) op ty f H v) {a : Act} (h1 : FS (N, none) f a H) {w : World} (h2 : w.heap = H) : (execOp a.eval ⟨dd, op, ty, p, af, g⟩).run P w = .ok (.value v) w := by
  have := h a w h1 h2
  rw [execOp_opx]
  cases hr : (execOp a.eval (opx op ty)).run P w with
  | halt x w' => rw [hr] at this; exact this.elim
  | ok x w' =>
    obtain ⟨u, rfl⟩ := plain_value hp ty a.eval hr
    rw [hr] at this
    obtain ⟨rfl, rfl⟩ := this
    rfl

theorem hd_v {v : Value} (hp : plainOp op = true) (h : ∀ H', St H' → OpV P (N, none) op ty f H' v) (hd : Nat.blt d N = true) (k : HD P N l0 St rest Q ((d, v) :: f) H) :
    HD P N l0 St (.step false ⟨some d, op, ty, p, af, none⟩ rest) Q f H := by
  intro w0 a w h1 h2 h3
  exact ⟨v, .inl ⟨rfl, fun w' hS => (h _ hS).run hp h1.any rfl⟩, k w0 _ w ((h1.put (N := (N, none)) (blt_lt hd) _).any) h2 h3⟩

theorem hd_g {vg v : Value} {dj : Nat} (hp : plainOp op = true) (hj : gslot l0 j = some dj) (hv : lk f dj = some vg) (h : gb vg want = true → ∀ H', St H' → OpV P (N, none) op ty f H' v) (hd : Nat.blt d N = true)
    (k : HD P N l0 St rest Q ((d, gv (gb vg want) v) :: f) H) : HD P N l0 St (.step false ⟨some d, op, ty, p, af, some (j, want)⟩ rest) Q f H := by
  intro w0 a w h1 h2 h3
  refine ⟨gv (gb vg want) v, ?_, k w0 _ w ((h1.put (N := (N, none)) (blt_lt hd) _).any) h2 h3⟩
  cases hc : gb vg want
  · exact .inr ⟨by rw [wanted_of h1 hj hv, hc], rfl⟩
  · exact .inl ⟨by rw [wanted_of h1 hj hv, hc], fun w' hS => (h hc _ hS).run hp h1.any rfl⟩

theorem OpH.wp {dd : Option Tmp} {g : Option (Nat × Bool)} {R : Value → Heap → Prop} (h : OpH P (N, none) op ty f H R) {a : Act} {w w0 : World} (h1 : FS (N, none) f a H) (h2 : w.heap = H) (h3 : Env w0 w) {K : Act → World → Prop} {Q' : Exit → Act → World → Prop}
    (k : ∀ v w', Env w0 w' → R v w'.heap → K (a.put dd v) w') : Oper.wp P ⟨dd, op, ty, p, af, g⟩ a w K Q' := by
  unfold Oper.wp
  rw [execOp_opx]
  have := h a w h1 h2
  generalize (execOp a.eval (opx op ty)).run P w = res at *
  cases res with
  | halt x w' => exact this.elim
  | ok x w' =>
    cases x <;> simp only [hupon] at this <;> try exact this.elim
    · exact k _ _ (h3.trans this.1) this.2
    · exact k _ _ (h3.trans this.1) this.2
    · exact Calls.mono this fun e w'' ⟨v, he, h4, h5⟩ => by subst he; exact k _ _ (h3.trans h4) h5

theorem hd_h {R : Value → Heap → Prop} (h : OpH P (N, none) op ty f H R) (hS : ∀ v H', R v H' → St H') (hd : Nat.blt d N = true) (k : ∀ v H', R v H' → HD P N l0 St rest Q ((d, v) :: f) H') :
    HD P N l0 St (.step true ⟨some d, op, ty, p, af, none⟩ rest) Q f H := by
  intro w0 a w h1 h2 h3
  show if _ then _ else _
  rw [show Region.wanted (⟨some d, op, ty, p, af, none⟩ : Oper) (yielded l0.toArray a.tmps) = true from rfl, if_pos rfl]
  exact h.wp h1 h2 h3 fun v w' h4 h5 => ⟨hS _ _ h5, k v w'.heap h5 w0 _ _ ((h1.put (N := (N, none)) (blt_lt hd) _).any) rfl h4⟩
theorem hd_s {R : Value → Heap → Prop} (h : OpH P (N, none) op ty f H R) (hS : ∀ v H', R v H' → St H') (k : ∀ v H', R v H' → HD P N l0 St rest Q f H') :
    HD P N l0 St (.step true ⟨none, op, ty, p, af, none⟩ rest) Q f H := by
  intro w0 a w h1 h2 h3
  show if _ then _ else _
  rw [show Region.wanted (⟨none, op, ty, p, af, none⟩ : Oper) (yielded l0.toArray a.tmps) = true from rfl, if_pos rfl]
  exact h.wp h1 h2 h3 fun v w' h4 h5 => ⟨hS _ _ h5, k v w'.heap h5 w0 _ _ ((h1.put_none _).any) rfl h4⟩
/-- a guarded operation that leaves the heap as it is, in its turn (a call) -/
theorem hd_q {vg v : Value} {dj : Nat} (hS : St H) (hj : gslot l0 j = some dj) (hv : lk f dj = some vg) (h : gb vg want = true → OpV P (N, none) op ty f H v) (hd : Nat.blt d N = true)
    (k : HD P N l0 St rest Q ((d, gv (gb vg want) v) :: f) H) : HD P N l0 St (.step true ⟨some d, op, ty, p, af, some (j, want)⟩ rest) Q f H := by
  intro w0 a w h1 h2 h3
  show if _ then _ else _
  rw [wanted_of h1 hj hv]
  cases hc : gb vg want
  · rw [hc] at k
    rw [if_neg (by simp)]
    exact k w0 _ w ((h1.put (N := (N, none)) (blt_lt hd) _).any) h2 h3
  · rw [hc] at k
    rw [if_pos rfl]
    refine (h hc).toH.wp h1 h2 h3 fun v' w' h4 ⟨h5, h6⟩ => ?_
    subst h5
    exact ⟨h6 ▸ hS, k w0 _ _ ((h1.put (N := (N, none)) (blt_lt hd) _).any) h6 h4⟩
/-- a guarded operation, the guard known to say go -/
theorem hd_gh {vg : Value} {dj : Nat} {R : Value → Heap → Prop} (hj : gslot l0 j = some dj) (hv : lk f dj = some vg) (hg : gb vg want = true) (h : OpH P (N, none) op ty f H R) (hS : ∀ v H', R v H' → St H') (hd : Nat.blt d N = true)
    (k : ∀ v H', R v H' → HD P N l0 St rest Q ((d, v) :: f) H') : HD P N l0 St (.step true ⟨some d, op, ty, p, af, some (j, want)⟩ rest) Q f H := by
  intro w0 a w h1 h2 h3
  show if _ then _ else _
  rw [wanted_of h1 hj hv, hg, if_pos rfl]
  exact h.wp h1 h2 h3 fun v w' h4 h5 => ⟨hS _ _ h5, k v w'.heap h5 w0 _ _ ((h1.put (N := (N, none)) (blt_lt hd) _).any) rfl h4⟩
end
end Go.Proofs.Ytbaciogbhjcdoaa
