/- Several texts in one. No condition. -/
import Derived.Test.YtaopgjfioabfpaaGreatMg10FunTells
import Derived.OrdersIn
set_option linter.unusedVariables false
set_option linter.unusedSimpArgs false
set_option maxRecDepth 20000
namespace Go.Proofs.YtaopgjfioabfpaaGreat
section
/-- operations that yield a value of themselves -/
def plainOp : Op → Bool
  | .move _ | .assign _ | .pick .. | .load .. | .binOp .. | .unOp .. | .convert .. | .makeFunc .. | .slice .. | .fieldAddr .. | .field .. | .indexAddr .. | .index .. | .lookup .. | .extract .. | .build .. => true
  | .call ⟨.builtin .len, _, _⟩ => true
  | .nilCheck _ => true
  | _ => false
theorem plain_value {op : Op} (h : plainOp op = true) (ty : TypeId) (ρ : Operand → Value) {P : Program} {w w' : World} {x : Next} (hr : (execOp ρ (opx op ty)).run P w = .ok x w') : ∃ v, x = .value v := by
  have key : ∀ (s : Sem Value), (do pure (Next.value (← s)) : Sem Next).run P w = .ok x w' → ∃ v, x = .value v := by
    intro s hs
    simp only [Sem.run_bind] at hs
    cases he : s.run P w with
    | halt a b => rw [he] at hs; cases hs
    | ok a b => rw [he] at hs; cases hs; exact ⟨_, rfl⟩
  have pv : ∀ (v : Value), (pure (Next.value v) : Sem Next).run P w = .ok x w' → ∃ v, x = .value v := by
    intro v hs; cases hs; exact ⟨_, rfl⟩
  have aux : ∀ {α : Type} (s : Sem α) (k : α → Sem Next), (∀ a w1 x w2, (k a).run P w1 = .ok x w2 → ∃ v, x = .value v) → ∀ w x w', (s >>= k).run P w = .ok x w' → ∃ v, x = .value v := by
    intro α s k hk w x w' hs
    simp only [Sem.run_bind] at hs
    cases he : s.run P w with
    | halt a b => rw [he] at hs; cases hs
    | ok a b => rw [he] at hs; exact hk a b x w' hs
  cases op with
  | nilCheck y =>
    simp only [opx, execOp] at hr
    split at hr
    · simp [runtimePanic] at hr
    · simp [runtimePanic] at hr
    · simp [runtimePanic] at hr
    · split at hr
      · simp [runtimePanic] at hr
      · refine aux _ _ (fun a w1 x w2 h => aux _ _ (fun b w3 x w4 h => ?_) _ _ _ h) _ _ _ hr
        split at h
        · refine aux _ _ (fun c w5 x w6 h => ?_) _ _ _ h
          cases h; exact ⟨_, rfl⟩
        · cases h; exact ⟨_, rfl⟩
      · exact pv _ hr
    · exact pv _ hr
  | move x => exact pv _ hr
  | assign x => exact pv _ hr
  | pick c x y =>
    simp only [opx, execOp, Sem.run_bind] at hr
    cases he : (asBool (ρ c)).run P w with
    | halt a b => rw [he] at hr; cases hr
    | ok a b => rw [he] at hr; cases hr; exact ⟨_, rfl⟩
  | call c =>
    obtain ⟨cal, as, tys⟩ := c
    cases cal with
    | builtin b =>
      cases b <;> simp [plainOp] at h
      simp only [opx, execOp, resolve, Sem.run_bind, Sem.run_pure, Result.andThen_ok, invoke, builtin] at hr
      exact key _ (by simpa using hr)
    | _ => simp [plainOp] at h
  | _ => first | (simp [plainOp] at h; done) | exact key _ hr
/-! ### an operation that neither panics nor defers -/
def oW (P : Program) (o : Oper) (a : Act) (w : World) (K : Act → World → Prop) : Prop :=
  match (execOp a.eval o).run P w with
  | .ok (.value v) w' => K (a.put o.dst v) w'
  | .ok .skip w' => K (a.put o.dst undef) w'
  | .ok (.enter f args) w' => Calls P f args w' (fun e w'' => ∃ v, e = .returned v ∧ K (a.put o.dst v) w'')
  | .ok (.round l f tmps assign body) w' => RoundIn Fence.wide 0 P l f tmps assign body w' (fun e w'' => ∃ v, e = .returned v ∧ K (a.put o.dst v) w'')
  | _ => False
theorem oW_mono {P : Program} {o : Oper} {a : Act} {w : World} {K K' : Act → World → Prop} (h : ∀ a w, K a w → K' a w) (hh : oW P o a w K) : oW P o a w K' := by
  unfold oW at *
  generalize (execOp a.eval o).run P w = r at *
  cases r with
  | halt x w' => exact hh.elim
  | ok n w' =>
    cases n <;> simp only at hh ⊢ <;>
      first
        | exact hh.elim
        | exact h _ _ hh
        | exact Calls.mono hh (fun e w'' ⟨v, he, hk⟩ => ⟨v, he, h _ _ hk⟩)
        | exact RoundIn.mono hh (fun e w'' ⟨v, he, hk⟩ => ⟨v, he, h _ _ hk⟩)
def oWi (P : Program) (ops : Array Oper) (i : Nat) (K : Act → World → Prop) (a : Act) (w : World) : Prop :=
  match ops[i]? with
  | none => K a w
  | some o => if Region.wanted o (yielded ops a.tmps) then oW P o a w K else K (a.put o.dst undef) w
theorem oWi_mono {P : Program} {ops : Array Oper} {i : Nat} {a : Act} {w : World} {K K' : Act → World → Prop} (h : ∀ a w, K a w → K' a w) (hh : oWi P ops i K a w) : oWi P ops i K' a w := by
  unfold oWi at *
  split
  · exact h _ _ (by simpa [*] using hh)
  · rename_i o ho
    simp only [ho] at hh
    split
    · rename_i hw; simp only [hw, if_true] at hh; exact oW_mono h hh
    · rename_i hw; simp only [hw] at hh; exact h _ _ hh
def wpA (P : Program) (ops : Array Oper) (K : Act → World → Prop) : Nat → Array Bool → Act → World → Prop
  | 0, listed, a, w => Region.ready .any ops listed = [] ∧ K a w
  | fuel + 1, listed, a, w => (Region.ready .any ops listed = [] → K a w) ∧ ∀ i ∈ Region.ready .any ops listed, oWi P ops i (wpA P ops K fuel (listed.setIfInBounds i true)) a w
def noDefer (l : List Oper) : Bool := l.all fun o => match o.op with | .defer _ => false | _ => true
theorem oWi_in {P : Program} {l : List Oper} {r : Option Nat} (hd : noDefer l = true) {Q : Exit → Act → World → Prop} {i : Nat} {a : Act} {w : World} {K : Act → World → Prop} (h : oWi P l.toArray i K a w) : wpOpIn (Fr r) 0 P l.toArray Q i K a w := by
  unfold oWi at h
  unfold wpOpIn
  split
  · rename_i hn; rw [hn] at h; exact h
  · rename_i o ho
    rw [ho] at h
    have hnd : ∀ c, o.op ≠ .defer c := fun c e => by
      have hm : o ∈ l := by
        rw [List.getElem?_toArray] at ho
        exact List.mem_of_getElem? ho
      have := List.all_eq_true.1 hd o hm
      rw [e] at this; simp at this
    split
    · rename_i hw
      simp only [hw, if_true] at h
      refine ⟨fun _ _ => trivial, ?_⟩
      rw [Oper.semAt_eq _ _ _ hnd]
      unfold oW at h
      generalize (execOp a.eval o).run P w = res at *
      cases res with
      | halt x w' => exact h.elim
      | ok x w' =>
        cases x <;> simp only at h <;> try exact h.elim
        · exact h
        · exact h
        · refine ⟨fun hh => Bool.noConfusion hh, ?_⟩
          have hc : CallsIn Fence.wide 0 P _ _ w' _ := callsIn_wide.2 h
          exact CallsIn.mono (F := Fr r) hc fun e w'' ⟨v, he, h4⟩ => by subst he; exact h4
        · refine ⟨fun hh => Bool.noConfusion hh, ?_⟩
          exact RoundIn.mono (F := Fr r) h fun e w'' ⟨v, he, h4⟩ => by subst he; exact h4
    · rename_i hw
      simp only [hw] at h
      exact ⟨fun _ _ => trivial, h⟩
theorem wpA_in {P : Program} {l : List Oper} {r : Option Nat} (hd : noDefer l = true) {Q : Exit → Act → World → Prop} {K : Act → World → Prop} (hK : ∀ a w, K a w → Q .normal a w) :
    ∀ (n : Nat) (la : Array Bool) (a : Act) (w : World), wpA P l.toArray K n la a w → wpAnyIn (Fr r) 0 P .any l.toArray Q n la a w
  | 0, _, _, _, h => ⟨h.1, hK _ _ h.2⟩
  | n + 1, _, _, _, h => ⟨fun h0 => hK _ _ (h.1 h0), fun i hi => wpOpIn_mono (fun a' w' h' => wpA_in hd hK n _ a' w' h') (oWi_in hd (h.2 i hi))⟩
/-! ### taking an operation first, where nobody in the region turns what it looks at -/
section
variable {P : Program} {ops : Array Oper} {S : World → Prop} {K : Act → World → Prop}
theorem YieldsIf.oWi {i : Nat} {o : Oper} {v : Value} {a : Act} (hi : ops[i]? = some o) (hy : YieldsIf P ops S o v a) {K : Act → World → Prop} {w : World} (hS : S w) (h : K (a.put o.dst v) w) : Go.Proofs.YtaopgjfioabfpaaGreat.oWi P ops i K a w := by
  unfold Go.Proofs.YtaopgjfioabfpaaGreat.oWi
  simp only [hi]
  rcases hy with ⟨hw, hv⟩ | ⟨hw, rfl⟩
  · simp only [hw, if_true, oW, hv w hS]; exact h
  · simp only [hw, Bool.false_eq_true, if_false]; exact h
theorem oWi_putIf {j : Nat} {oi oj : Oper} {v : Value} (hj : ops[j]? = some oj) (hap : oi.apart ops oj = true) (hsi : ∀ cs b, oi.op ≠ .select cs b) (hsj : ∀ cs b, oj.op ≠ .select cs b) {K : Act → World → Prop} {a : Act} {w : World}
    (hy : YieldsIf P ops S oi v a) (h : oWi P ops j K (a.put oi.dst v) w) : oWi P ops j (fun a' w' => YieldsIf P ops S oi v a' ∧ K (a'.put oi.dst v) w') a w := by
  obtain ⟨h1, h2, h3⟩ := Oper.apart_spec hap
  have keep : ∀ (a : Act), YieldsIf P ops S oi v a → ∀ u, YieldsIf P ops S oi v (a.put oj.dst u) := fun a hy u =>
    hy.of_same (execOp_put oi hsi a oj.dst u h3) (wanted_put oi a oj.dst u h3)
  unfold oWi at *
  simp only [hj] at *
  rw [wanted_put oj a oi.dst v h1] at h
  split
  · rename_i hw
    simp only [hw, if_true] at h
    unfold oW at *
    rw [execOp_put oj hsj a oi.dst v h1] at h
    generalize (execOp a.eval oj).run P w = r at *
    cases r with
    | halt x w' => exact h.elim
    | ok n w' =>
      cases n <;> simp only at h ⊢ <;> try exact h.elim
      · exact ⟨keep a hy _, by rw [← Act.put_comm a v _ h2]; exact h⟩
      · exact ⟨keep a hy _, by rw [← Act.put_comm a v undef h2]; exact h⟩
      · exact Calls.mono h fun e w'' ⟨u, he, hk⟩ => ⟨u, he, keep a hy u, by rw [← Act.put_comm a v u h2]; exact hk⟩
      · exact RoundIn.mono h fun e w'' ⟨u, he, hk⟩ => ⟨u, he, keep a hy u, by rw [← Act.put_comm a v u h2]; exact hk⟩
  · rename_i hw
    simp only [hw] at h
    exact ⟨keep a hy _, by rw [← Act.put_comm a v undef h2]; exact h⟩
/-- whatever order is picked, and S holds behind every operation -/
def wpAH (P : Program) (ops : Array Oper) (S : World → Prop) (K : Act → World → Prop) : Nat → Array Bool → Act → World → Prop
  | 0, listed, a, w => Region.ready .any ops listed = [] ∧ K a w
  | fuel + 1, listed, a, w => (Region.ready .any ops listed = [] → K a w) ∧ ∀ i ∈ Region.ready .any ops listed, oWi P ops i (fun a' w' => S w' ∧ wpAH P ops S K fuel (listed.setIfInBounds i true) a' w') a w
theorem wpA_of_held : ∀ (fuel : Nat) (listed : Array Bool) (a : Act) (w : World), wpAH P ops S K fuel listed a w → wpA P ops K fuel listed a w
  | 0, _, _, _, h => h
  | fuel + 1, _, _, _, h => ⟨h.1, fun i hi => oWi_mono (fun a' w' h' => wpA_of_held fuel _ a' w' h'.2) (h.2 i hi)⟩
theorem wpAH_first {i : Nat} {oi : Oper} {v : Value} (hi : ops[i]? = some oi) (hsel : ∀ (j : Nat) (o : Oper) cs b, ops[j]? = some o → o.op ≠ .select cs b) :
    ∀ (fuel : Nat) (listed : Array Bool) (a : Act) (w : World),
      (∀ j oj, ops[j]? = some oj → j ≠ i → listed.getD j true = false → (∀ e ∈ oj.after, Region.binds .any e = true → e.on ≠ i) → oi.apart ops oj = true) →
      i ∈ Region.ready .any ops listed → YieldsIf P ops S oi v a → S w →
      wpAH P ops S K fuel (listed.setIfInBounds i true) (a.put oi.dst v) w → wpAH P ops S K (fuel + 1) listed a w := by
  intro fuel
  induction fuel with
  | zero =>
    intro listed a w _ hr hy hS H
    refine ⟨fun h => (by rw [h] at hr; cases hr), fun j hj => ?_⟩
    by_cases hji : j = i
    · subst hji; exact YieldsIf.oWi hi hy hS ⟨hS, H⟩
    · have := ready_mono hj hji
      rw [H.1] at this
      cases this
  | succ fuel ih =>
    intro listed a w hfree hr hy hS H
    refine ⟨fun h => (by rw [h] at hr; cases hr), fun j hj => ?_⟩
    by_cases hji : j = i
    · subst hji; exact YieldsIf.oWi hi hy hS ⟨hS, H⟩
    · have h1 := H.2 j (ready_mono hj hji)
      obtain ⟨hjun, oj, hoj, hall⟩ := mem_ready.1 hj
      have hnot : ∀ e ∈ oj.after, Region.binds .any e = true → e.on ≠ i := fun e he hb heq => by
        have h1 := hall e he hb
        have h0 := (mem_ready.1 hr).1
        rw [heq] at h1
        rcases Nat.lt_or_ge i listed.size with h' | h'
        · simp [h'] at h0 h1; rw [h0] at h1; cases h1
        · simp [Array.getElem?_eq_none h'] at h1
      have h2 := oWi_putIf hoj (hfree j oj hoj hji hjun hnot) (fun cs b => hsel i oi cs b hi) (fun cs b => hsel j oj cs b hoj) hy h1
      have hfree' : ∀ k ok, ops[k]? = some ok → k ≠ i → (listed.setIfInBounds j true).getD k true = false →
          (∀ e ∈ ok.after, Region.binds .any e = true → e.on ≠ i) → oi.apart ops ok = true := fun k ok hk hki hun hno => by
        refine hfree k ok hk hki ?_ hno
        by_cases hjk : j = k
        · subst hjk; exact hjun
        · rw [getD_set_ne true hjk] at hun; exact hun
      refine oWi_mono (fun a' w' h3 => ⟨h3.2.1, ih (listed.setIfInBounds j true) a' w' hfree' (ready_mono hr (Ne.symm hji)) h3.1 h3.2.1 ?_⟩) h2
      rw [Array.setIfInBounds_comm _ _ hji]
      exact h3.2.2
theorem wpAH_take {i : Nat} {oi : Oper} {v : Value} {fuel : Nat} {listed : Array Bool} {a : Act} {w : World} (hi : ops[i]? = some oi) (hs : Region.noSelect ops = true) (hf : Region.free .any ops listed i = true) (hr : (Region.ready .any ops listed).contains i = true)
    (hy : YieldsIf P ops S oi v a) (hS : S w) (h : wpAH P ops S K fuel (listed.setIfInBounds i true) (a.put oi.dst v) w) : wpAH P ops S K (fuel + 1) listed a w :=
  wpAH_first hi (Region.noSelect_spec hs) fuel listed a w (Region.free_spec hi hf) (by simpa using hr) hy hS h
theorem wpAH_all {rs : List Nat} {fuel : Nat} {listed : Array Bool} {a : Act} {w : World} (hr : Region.ready .any ops listed = rs) (hne : rs ≠ []) (h : ∀ i ∈ rs, oWi P ops i (fun a' w' => S w' ∧ wpAH P ops S K fuel (listed.setIfInBounds i true) a' w') a w) :
    wpAH P ops S K (fuel + 1) listed a w := ⟨fun h0 => absurd (hr ▸ h0) hne, hr ▸ h⟩
theorem wpAH_done {listed : Array Bool} {a : Act} {w : World} (hr : Region.ready .any ops listed = []) (h : K a w) : ∀ fuel, wpAH P ops S K fuel listed a w
  | 0 => ⟨hr, h⟩
  | _ + 1 => ⟨fun _ => h, by rw [hr]; simp⟩
end
/-- a schedule: which operation comes, alone (true) or taken first (false); where two or three may come, all ways -/
inductive Sch where
  | done
  | step (i : Nat) (b : Bool) (r : Sch)
  | two (i j : Nat) (r s : Sch)
  | three (i j k : Nat) (r s t : Sch)
  | more (pre : List Nat) (i : Nat) (r s : Sch)
  | last (pre : List Nat) (i : Nat) (r : Sch)
def Sch.depth : Sch → Nat
  | .done => 0
  | .step _ _ r => r.depth + 1
  | .two _ _ r s => max r.depth s.depth + 1
  | .three _ _ _ r s t => max r.depth (max s.depth t.depth) + 1
  | .more _ _ r s => max (r.depth + 1) s.depth
  | .last _ _ r => r.depth + 1
/-- several may come: which -/
def opts : Sch → List Nat
  | .more _ i _ s => i :: opts s
  | .last _ i _ => [i]
  | _ => []
def topOk : Sch → Bool
  | .more pre _ _ _ => pre.isEmpty
  | .last pre _ _ => pre.isEmpty
  | _ => true
inductive Tr where
  | done
  | step (b : Bool) (o : Oper) (r : Tr)
  | two (o p : Oper) (r s : Tr)
  | three (o p q : Oper) (r s t : Tr)
  | more (o : Oper) (r s : Tr)
  | last (o : Oper) (r : Tr)
/-- the operations of a schedule -/
def pickOps (l0 : List Oper) : Sch → Tr
  | .done => .done
  | .step i b r => match l0[i]? with
    | some o => .step b o (pickOps l0 r)
    | none => pickOps l0 r
  | .two i j r s => match l0[i]?, l0[j]? with
    | some o, some p => .two o p (pickOps l0 r) (pickOps l0 s)
    | _, _ => .done
  | .three i j k r s t => match l0[i]?, l0[j]?, l0[k]? with
    | some o, some p, some q => .three o p q (pickOps l0 r) (pickOps l0 s) (pickOps l0 t)
    | _, _, _ => .done
  | .more _ i r s => match l0[i]? with
    | some o => .more o (pickOps l0 r) (pickOps l0 s)
    | none => .done
  | .last _ i r => match l0[i]? with
    | some o => .last o (pickOps l0 r)
    | none => .done
/-- Is it a schedule? true: the operation is the only one that may come; false: it may be taken first. -/
def schedC (l0 : List Oper) : Sch → Array Bool → Bool
  | .three i j k r s t, listed => (l0[i]?).isSome && (l0[j]?).isSome && (l0[k]?).isSome && (Region.ready .any l0.toArray listed == [i, j, k]) && (topOk r && schedC l0 r (listed.setIfInBounds i true)) && (topOk s && schedC l0 s (listed.setIfInBounds j true)) && (topOk t && schedC l0 t (listed.setIfInBounds k true))
  | .two i j r s, listed => (l0[i]?).isSome && (l0[j]?).isSome && (Region.ready .any l0.toArray listed == [i, j]) && (topOk r && schedC l0 r (listed.setIfInBounds i true)) && (topOk s && schedC l0 s (listed.setIfInBounds j true))
  | .done, listed => (Region.ready .any l0.toArray listed).isEmpty
  | .step i b r, listed => (l0[i]?).isSome && (if b then Region.ready .any l0.toArray listed == [i] else Region.free .any l0.toArray listed i && (Region.ready .any l0.toArray listed).contains i) && (topOk r && schedC l0 r (listed.setIfInBounds i true))
  | .more pre i r s, listed => (l0[i]?).isSome && (Region.ready .any l0.toArray listed == pre ++ i :: opts s) && (topOk r && schedC l0 r (listed.setIfInBounds i true)) && schedC l0 s listed
  | .last pre i r, listed => (l0[i]?).isSome && (Region.ready .any l0.toArray listed == pre ++ [i]) && (topOk r && schedC l0 r (listed.setIfInBounds i true))
def sched (l0 : List Oper) (π : Sch) (listed : Array Bool) : Bool := topOk π && schedC l0 π listed
/-- The schedule's operations, one behind the other. -/
def HDr (P : Program) (l0 : List Oper) (S : World → Prop) (K : Act → World → Prop) : Tr → Act → World → Prop
  | .done, a, w => K a w
  | .three o p q r s t, a, w => (if Region.wanted o (yielded l0.toArray a.tmps) then oW P o a w (fun a' w' => S w' ∧ HDr P l0 S K r a' w') else HDr P l0 S K r (a.put o.dst undef) w) ∧
      (if Region.wanted p (yielded l0.toArray a.tmps) then oW P p a w (fun a' w' => S w' ∧ HDr P l0 S K s a' w') else HDr P l0 S K s (a.put p.dst undef) w) ∧
      (if Region.wanted q (yielded l0.toArray a.tmps) then oW P q a w (fun a' w' => S w' ∧ HDr P l0 S K t a' w') else HDr P l0 S K t (a.put q.dst undef) w)
  | .two o p r s, a, w => (if Region.wanted o (yielded l0.toArray a.tmps) then oW P o a w (fun a' w' => S w' ∧ HDr P l0 S K r a' w') else HDr P l0 S K r (a.put o.dst undef) w) ∧
      (if Region.wanted p (yielded l0.toArray a.tmps) then oW P p a w (fun a' w' => S w' ∧ HDr P l0 S K s a' w') else HDr P l0 S K s (a.put p.dst undef) w)
  | .more o r s, a, w => (if Region.wanted o (yielded l0.toArray a.tmps) then oW P o a w (fun a' w' => S w' ∧ HDr P l0 S K r a' w') else HDr P l0 S K r (a.put o.dst undef) w) ∧ HDr P l0 S K s a w
  | .last o r, a, w => (if Region.wanted o (yielded l0.toArray a.tmps) then oW P o a w (fun a' w' => S w' ∧ HDr P l0 S K r a' w') else HDr P l0 S K r (a.put o.dst undef) w)
  | .step false o r, a, w => ∃ v, YieldsIf P l0.toArray S o v a ∧ HDr P l0 S K r (a.put o.dst v) w
  | .step true o r, a, w => if Region.wanted o (yielded l0.toArray a.tmps) then oW P o a w (fun a' w' => S w' ∧ HDr P l0 S K r a' w') else HDr P l0 S K r (a.put o.dst undef) w
theorem HDr_oWi {P : Program} {l0 : List Oper} {S : World → Prop} {K : Act → World → Prop} {r : Tr} {i : Nat} {o : Oper} {a : Act} {w : World} (ho : l0[i]? = some o) {k : Act → World → Prop} (hS : S w)
    (hk : ∀ a w, S w → HDr P l0 S K r a w → k a w) (h : if Region.wanted o (yielded l0.toArray a.tmps) then oW P o a w (fun a' w' => S w' ∧ HDr P l0 S K r a' w') else HDr P l0 S K r (a.put o.dst undef) w) :
    oWi P l0.toArray i (fun a' w' => S w' ∧ k a' w') a w := by
  have ha : l0.toArray[i]? = some o := by simpa using ho
  unfold oWi
  simp only [ha]
  split
  · rename_i hw; rw [if_pos hw] at h
    exact oW_mono (fun a' w' ⟨k1, k2⟩ => ⟨k1, hk a' w' k1 k2⟩) h
  · rename_i hw; rw [if_neg hw] at h
    exact ⟨hS, hk _ w hS h⟩
theorem hd_core {P : Program} {l0 : List Oper} (hs : Region.noSelect l0.toArray = true) {S : World → Prop} {K : Act → World → Prop} :
    ∀ (π : Sch) (listed : Array Bool) (a : Act) (w : World),
      (∀ fuel, topOk π = true ∧ schedC l0 π listed = true → π.depth ≤ fuel → S w → HDr P l0 S K (pickOps l0 π) a w → wpAH P l0.toArray S K fuel listed a w) ∧
      (∀ fuel, schedC l0 π listed = true → π.depth ≤ fuel + 1 → S w → HDr P l0 S K (pickOps l0 π) a w → ∀ m ∈ opts π, oWi P l0.toArray m (fun a' w' => S w' ∧ wpAH P l0.toArray S K fuel (listed.setIfInBounds m true) a' w') a w) := by
  intro π
  induction π with
  | done =>
    intro listed a w
    refine ⟨fun fuel hB _ hS h => ?_, fun _ _ _ _ _ m hm => by simp [opts] at hm⟩
    have hB := hB.2
    simp only [schedC, List.isEmpty_iff] at hB
    exact wpAH_done hB h fuel
  | more pre i r s ihr ihs =>
    intro listed a w
    have key : ∀ fuel, schedC l0 (.more pre i r s) listed = true → (Sch.more pre i r s).depth ≤ fuel + 1 → S w → HDr P l0 S K (pickOps l0 (.more pre i r s)) a w → ∀ m ∈ opts (.more pre i r s), oWi P l0.toArray m (fun a' w' => S w' ∧ wpAH P l0.toArray S K fuel (listed.setIfInBounds m true) a' w') a w := by
      intro fuel hB hlen hS h m hm
      simp only [Sch.depth] at hlen
      simp only [schedC, Bool.and_eq_true, beq_iff_eq] at hB
      obtain ⟨⟨⟨h1, h2⟩, h3⟩, h4⟩ := hB
      obtain ⟨o, ho⟩ := Option.isSome_iff_exists.1 h1
      simp only [pickOps, ho, HDr] at h
      simp only [opts, List.mem_cons] at hm
      rcases hm with rfl | hm
      · exact HDr_oWi ho hS (fun a' w' k1 k2 => (ihr _ a' w').1 fuel h3 (by omega) k1 k2) h.1
      · exact (ihs listed a w).2 fuel h4 (by omega) hS h.2 m hm
    refine ⟨fun fuel hB hlen hS h => ?_, key⟩
    cases fuel with
    | zero => simp [Sch.depth] at hlen
    | succ fuel =>
      have h0 := hB.1; have hC := hB.2
      simp only [topOk, List.isEmpty_iff] at h0
      simp only [schedC, Bool.and_eq_true, beq_iff_eq] at hC
      obtain ⟨⟨⟨h1, h2⟩, h3⟩, h4⟩ := hC
      subst h0
      exact wpAH_all h2 (by simp) fun m hm => key fuel hB.2 hlen hS h m (by simpa [opts] using hm)
  | last pre i r ihr =>
    intro listed a w
    have key : ∀ fuel, schedC l0 (.last pre i r) listed = true → (Sch.last pre i r).depth ≤ fuel + 1 → S w → HDr P l0 S K (pickOps l0 (.last pre i r)) a w → ∀ m ∈ opts (.last pre i r), oWi P l0.toArray m (fun a' w' => S w' ∧ wpAH P l0.toArray S K fuel (listed.setIfInBounds m true) a' w') a w := by
      intro fuel hB hlen hS h m hm
      simp only [Sch.depth] at hlen
      simp only [schedC, Bool.and_eq_true, beq_iff_eq] at hB
      obtain ⟨⟨h1, h2⟩, h3⟩ := hB
      obtain ⟨o, ho⟩ := Option.isSome_iff_exists.1 h1
      simp only [pickOps, ho, HDr] at h
      simp only [opts, List.mem_singleton] at hm
      subst hm
      exact HDr_oWi ho hS (fun a' w' k1 k2 => (ihr _ a' w').1 fuel h3 (by omega) k1 k2) h
    refine ⟨fun fuel hB hlen hS h => ?_, key⟩
    cases fuel with
    | zero => simp [Sch.depth] at hlen
    | succ fuel =>
      have h0 := hB.1; have hC := hB.2
      simp only [topOk, List.isEmpty_iff] at h0
      simp only [schedC, Bool.and_eq_true, beq_iff_eq] at hC
      obtain ⟨⟨h1, h2⟩, h3⟩ := hC
      subst h0
      exact wpAH_all h2 (by simp) fun m hm => key fuel hB.2 hlen hS h m (by simpa [opts] using hm)
  | three i j k r s t ihr ihs iht =>
    intro listed a w
    refine ⟨fun fuel hB hlen hS h => ?_, fun _ _ _ _ _ m hm => by simp [opts] at hm⟩
    have hB := hB.2
    cases fuel with
    | zero => simp [Sch.depth] at hlen
    | succ fuel =>
      simp only [Sch.depth] at hlen
      simp only [schedC, Bool.and_eq_true, beq_iff_eq] at hB
      obtain ⟨⟨⟨⟨⟨⟨h1, h1'⟩, h1''⟩, h2⟩, h3⟩, h3'⟩, h3''⟩ := hB
      obtain ⟨o, ho⟩ := Option.isSome_iff_exists.1 h1
      obtain ⟨o', ho'⟩ := Option.isSome_iff_exists.1 h1'
      obtain ⟨o'', ho''⟩ := Option.isSome_iff_exists.1 h1''
      simp only [pickOps, ho, ho', ho'', HDr] at h
      refine wpAH_all h2 (by simp) fun m hm => ?_
      simp only [List.mem_cons, List.not_mem_nil, or_false] at hm
      rcases hm with rfl | rfl | rfl
      · exact HDr_oWi ho hS (fun a' w' k1 k2 => (ihr _ a' w').1 fuel h3 (by omega) k1 k2) h.1
      · exact HDr_oWi ho' hS (fun a' w' k1 k2 => (ihs _ a' w').1 fuel h3' (by omega) k1 k2) h.2.1
      · exact HDr_oWi ho'' hS (fun a' w' k1 k2 => (iht _ a' w').1 fuel h3'' (by omega) k1 k2) h.2.2
  | two i j r s ihr ihs =>
    intro listed a w
    refine ⟨fun fuel hB hlen hS h => ?_, fun _ _ _ _ _ m hm => by simp [opts] at hm⟩
    have hB := hB.2
    cases fuel with
    | zero => simp [Sch.depth] at hlen
    | succ fuel =>
      simp only [Sch.depth] at hlen
      simp only [schedC, Bool.and_eq_true, beq_iff_eq] at hB
      obtain ⟨⟨⟨⟨h1, h1'⟩, h2⟩, h3⟩, h3'⟩ := hB
      obtain ⟨o, ho⟩ := Option.isSome_iff_exists.1 h1
      obtain ⟨o', ho'⟩ := Option.isSome_iff_exists.1 h1'
      simp only [pickOps, ho, ho', HDr] at h
      refine wpAH_all h2 (by simp) fun k hk => ?_
      simp only [List.mem_cons, List.not_mem_nil, or_false] at hk
      rcases hk with rfl | rfl
      · exact HDr_oWi ho hS (fun a' w' k1 k2 => (ihr _ a' w').1 fuel h3 (by omega) k1 k2) h.1
      · exact HDr_oWi ho' hS (fun a' w' k1 k2 => (ihs _ a' w').1 fuel h3' (by omega) k1 k2) h.2
  | step i b π ih =>
    intro listed a w
    refine ⟨fun fuel hB hlen hS h => ?_, fun _ _ _ _ _ m hm => by simp [opts] at hm⟩
    have hB := hB.2
    cases fuel with
    | zero => simp [Sch.depth] at hlen
    | succ fuel =>
      simp only [Sch.depth] at hlen
      simp only [schedC, Bool.and_eq_true] at hB
      obtain ⟨⟨h1, h2⟩, h3⟩ := hB
      obtain ⟨o, ho⟩ := Option.isSome_iff_exists.1 h1
      have ho' : l0.toArray[i]? = some o := by simpa using ho
      simp only [pickOps, ho] at h
      cases b with
      | false =>
        simp only [Bool.false_eq_true, if_false, Bool.and_eq_true] at h2
        obtain ⟨v, h4, h5⟩ := h
        exact wpAH_take ho' hs h2.1 h2.2 h4 hS ((ih _ _ w).1 fuel h3 (by omega) hS h5)
      | true =>
        simp only [if_true, beq_iff_eq] at h2
        refine wpAH_all h2 (by simp) fun j hj => ?_
        obtain rfl : j = i := by simpa using hj
        exact HDr_oWi ho hS (fun a' w' k1 k2 => (ih _ a' w').1 fuel h3 (by omega) k1 k2) h
theorem hd_sound {P : Program} {l0 : List Oper} (hs : Region.noSelect l0.toArray = true) {S : World → Prop} {K : Act → World → Prop} (π : Sch) (fuel : Nat) (listed : Array Bool) (a : Act) (w : World) (hB : sched l0 π listed = true) (hd : π.depth ≤ fuel) (hS : S w) (h : HDr P l0 S K (pickOps l0 π) a w) : wpAH P l0.toArray S K fuel listed a w :=
  (hd_core hs π listed a w).1 fuel (by simpa [sched] using hB) hd hS h
/-! ### a region whose last operations wait for all others -/
/-- Each of the last operations waits for each of the first k; the first ones look at one another alone. -/
def tailOk (pre suf : List Oper) : Bool :=
  suf.all (fun z => (List.range pre.length).all fun i => z.after.any fun e => e.on == i && Region.binds .any e) &&
  pre.zipIdx.all (fun (o, i) => o.after.all (fun e => !Region.binds .any e || Nat.blt e.on i) && (match o.guard with | none => true | some (j, _) => Nat.blt j pre.length))
theorem ready_pre {pre suf : List Oper} (hB : tailOk pre suf = true) {la : Array Bool} (hla : la.size = pre.length) (hne : Region.ready .any pre.toArray la ≠ []) :
    Region.ready .any (pre ++ suf).toArray (la ++ Array.replicate suf.length false) = Region.ready .any pre.toArray la := by
  simp only [tailOk, Bool.and_eq_true, List.all_eq_true] at hB
  obtain ⟨h1, h2⟩ := hB
  obtain ⟨i0, hi0⟩ := List.exists_mem_of_ne_nil _ hne
  have hi1 := (mem_ready.1 hi0).1
  have hi2 : i0 < pre.length := by
    rcases Nat.lt_or_ge i0 pre.length with h | h
    · exact h
    · simp [hla, h] at hi1
  unfold Region.ready
  simp only [List.size_toArray, List.length_append, List.range_add, List.filter_append, List.getElem?_toArray]
  have e1 : (List.range pre.length).filter (fun i => !(la ++ Array.replicate suf.length false).getD i true && (((pre ++ suf)[i]?).map (fun x => x.after.all fun e => !Region.binds .any e || (la ++ Array.replicate suf.length false).getD e.on false)).getD false) =
      (List.range pre.length).filter (fun i => !la.getD i true && ((pre[i]?).map (fun x => x.after.all fun e => !Region.binds .any e || la.getD e.on false)).getD false) := by
    apply List.filter_congr
    intro i hi
    have hi : i < pre.length := by simpa using hi
    have g1 : ∀ j, j < pre.length → ∀ d, (la ++ Array.replicate suf.length false).getD j d = la.getD j d := by
      intro j hj d
      simp [Array.getD_eq_getD_getElem?, Array.getElem?_append, hla, hj]
    rw [g1 i hi, List.getElem?_append_left hi]
    congr 1
    have hz : (pre[i], i) ∈ pre.zipIdx := by rw [List.mem_zipIdx_iff_getElem?]; simp [hi]
    have h3 := h2 _ hz
    simp only [Bool.and_eq_true] at h3
    rw [List.getElem?_eq_getElem hi]
    simp only [Option.map_some, Option.getD_some]
    have h4 := h3.1
    rw [Array.all_eq_true'] at h4
    apply Bool.eq_iff_iff.2
    rw [Array.all_eq_true', Array.all_eq_true']
    constructor <;> intro h e he <;> have h5 := h e he <;> have h6 := h4 e he <;> simp only [Bool.or_eq_true, Bool.not_eq_true'] at h5 h6 ⊢ <;> rcases h6 with h6 | h6
    · exact .inl h6
    · rcases h5 with h5 | h5
      · exact .inl h5
      · have := blt_lt h6; rw [g1 _ (by omega)] at h5; exact .inr h5
    · exact .inl h6
    · rcases h5 with h5 | h5
      · exact .inl h5
      · have := blt_lt h6; rw [g1 _ (by omega)]; exact .inr h5
  rw [e1]
  have e2 : ((List.range suf.length).map (pre.length + ·)).filter (fun i => !(la ++ Array.replicate suf.length false).getD i true && (((pre ++ suf)[i]?).map (fun x => x.after.all fun e => !Region.binds .any e || (la ++ Array.replicate suf.length false).getD e.on false)).getD false) = [] := by
    rw [List.filter_eq_nil_iff]
    intro i hi
    simp only [List.mem_map, List.mem_range] at hi
    obtain ⟨j, hj, rfl⟩ := hi
    rw [List.getElem?_append_right (by omega), show pre.length + j - pre.length = j by omega, List.getElem?_eq_getElem hj]
    simp only [Option.map_some, Option.getD_some]
    have h3 := h1 suf[j] (List.getElem_mem hj) i0 (by simpa using hi2)
    rw [Array.any_eq_true'] at h3
    obtain ⟨e, he, h4⟩ := h3
    simp only [Bool.and_eq_true, beq_iff_eq] at h4
    intro hc
    simp only [Bool.and_eq_true] at hc
    have h5 := hc.2
    rw [Array.all_eq_true'] at h5
    have h6 := h5 e he
    rw [h4.1, h4.2] at h6
    have h7 : (la ++ Array.replicate suf.length false).getD i0 false = la.getD i0 false := by
      simp [Array.getD_eq_getD_getElem?, Array.getElem?_append, hla, hi2]
    rw [h7] at h6
    simp only [Bool.not_true, Bool.false_or] at h6
    have h8 : la.getD i0 true = la.getD i0 false := by simp [Array.getD_eq_getD_getElem?, hla, hi2]
    rw [h8, h6] at hi1
    cases hi1
  rw [e2, List.append_nil]
theorem wpA_more {P : Program} {ops : Array Oper} {K : Act → World → Prop} : ∀ (n m : Nat) (la : Array Bool) (a : Act) (w : World), wpA P ops K n la a w → wpA P ops K (m + n) la a w
  | 0, 0, _, _, _, h => h
  | 0, m + 1, la, a, w, h => by
    refine ⟨fun _ => h.2, ?_⟩
    rw [h.1]; simp
  | n + 1, m, la, a, w, h => ⟨h.1, fun i hi => oWi_mono (fun a' w' h' => wpA_more n m _ a' w' h') (h.2 i hi)⟩
theorem all_listed {pre suf : List Oper} (hB : tailOk pre suf = true) {la : Array Bool} (hla : la.size = pre.length) (hr : Region.ready .any pre.toArray la = []) : la = Array.replicate pre.length true := by
  simp only [tailOk, Bool.and_eq_true, List.all_eq_true] at hB
  obtain ⟨_, h2⟩ := hB
  have key : ∀ n i, i < n → i < pre.length → la.getD i false = true := by
    intro n
    induction n with
    | zero => intro i hi; omega
    | succ n ih =>
      intro i hi hl
      cases hc : la.getD i false with
      | true => rfl
      | false =>
        exfalso
        have hz : (pre[i], i) ∈ pre.zipIdx := by rw [List.mem_zipIdx_iff_getElem?]; simp [hl]
        have h3 := h2 _ hz
        have h4 := h3.1
        rw [Array.all_eq_true'] at h4
        have hmem : i ∈ Region.ready .any pre.toArray la := by
          refine mem_ready.2 ⟨?_, pre[i], by simp [hl], fun e he hb => ?_⟩
          · have : la.getD i true = la.getD i false := by simp [Array.getD_eq_getD_getElem?, hla, hl]
            rw [this, hc]
          · have h5 := h4 e he
            rw [hb] at h5
            have h6 := blt_lt (by simpa using h5)
            exact ih _ (by omega) (by omega)
        rw [hr] at hmem
        cases hmem
  apply Array.ext
  · simp [hla]
  · intro i h3 h4
    have := key (i + 1) i (by omega) (by omega)
    simp [Array.getD_eq_getD_getElem?, h3] at this
    simp [this]
theorem wpA_prefix {P : Program} {pre suf : List Oper} (hB : tailOk pre suf = true) {K' K : Act → World → Prop}
    (hend : ∀ a w, K' a w → wpA P (pre ++ suf).toArray K suf.length (Array.replicate pre.length true ++ Array.replicate suf.length false) a w) :
    ∀ (n : Nat) (la : Array Bool) (a : Act) (w : World), la.size = pre.length → wpA P pre.toArray K' n la a w → wpA P (pre ++ suf).toArray K (n + suf.length) (la ++ Array.replicate suf.length false) a w := by
  have fin : ∀ (n : Nat) (la : Array Bool) (a : Act) (w : World), la.size = pre.length → Region.ready .any pre.toArray la = [] → K' a w → wpA P (pre ++ suf).toArray K (n + suf.length) (la ++ Array.replicate suf.length false) a w := by
    intro n la a w hla hr hq
    rw [all_listed hB hla hr]
    exact wpA_more _ _ _ _ _ (hend a w hq)
  intro n
  induction n with
  | zero => intro la a w hla h; exact fin 0 la a w hla h.1 h.2
  | succ n ih =>
    intro la a w hla h
    by_cases hr : Region.ready .any pre.toArray la = []
    · exact fin _ la a w hla hr (h.1 hr)
    · have he := ready_pre hB hla hr
      rw [show n + 1 + suf.length = (n + suf.length) + 1 by omega]
      refine ⟨fun h0 => absurd (he ▸ h0) hr, fun i hi => ?_⟩
      rw [he] at hi
      have hi2 : i < pre.length := by
        obtain ⟨_, o, ho, _⟩ := mem_ready.1 hi
        have := (Array.getElem?_eq_some_iff.1 ho).1
        simpa using this
      have h3 := h.2 i hi
      have hset : (la ++ Array.replicate suf.length false).setIfInBounds i true = la.setIfInBounds i true ++ Array.replicate suf.length false := by
        apply Array.ext_getElem?
        intro j
        simp only [Array.getElem?_setIfInBounds, Array.getElem?_append, Array.size_append, Array.size_setIfInBounds, hla]
        by_cases hij : i = j
        · subst hij; simp [hi2]; omega
        · simp [hij]
      rw [hset]
      unfold oWi at h3 ⊢
      have e1 : (pre ++ suf).toArray[i]? = some pre[i] := by simp [List.getElem?_append_left hi2, hi2]
      have e2 : pre.toArray[i]? = some pre[i] := by simp [hi2]
      rw [e2] at h3
      rw [e1]
      simp only at h3 ⊢
      have e3 : Region.wanted pre[i] (yielded (pre ++ suf).toArray a.tmps) = Region.wanted pre[i] (yielded pre.toArray a.tmps) := by
        simp only [tailOk, Bool.and_eq_true, List.all_eq_true] at hB
        have hz : (pre[i], i) ∈ pre.zipIdx := by rw [List.mem_zipIdx_iff_getElem?]; simp [hi2]
        have h4 := (hB.2 _ hz).2
        unfold Region.wanted
        cases hg : pre[i].guard with
        | none => rfl
        | some p =>
          obtain ⟨j, want⟩ := p
          rw [hg] at h4
          have hj := blt_lt h4
          simp only [yielded, List.getElem?_toArray, List.getElem?_append_left hj]
      rw [e3]
      split
      · rename_i hw
        rw [if_pos hw] at h3
        exact oW_mono (fun a' w' k => ih _ a' w' (by simpa using hla) k) h3
      · rename_i hw
        rw [if_neg hw] at h3
        exact ih _ _ w (by simpa using hla) h3
def QF (N : Sz) (w0 : World) (Q : Frm → Heap → Prop) : Act → World → Prop := fun a w => Env w0 w ∧ ∃ f, FS N f a w.heap ∧ Q f w.heap
def HD (P : Program) (N : Sz) (l0 : List Oper) (St : Heap → Prop) (l : Tr) (Q : Frm → Heap → Prop) (f : Frm) (H : Heap) : Prop :=
  ∀ Hr w0 a w, Mk N.2 a Hr → Keep Hr H → FS N f a H → w.heap = H → Env w0 w → HDr P l0 (fun w' => St w'.heap ∧ Keep Hr w'.heap) (QF N w0 Q) l a w
/-- k operations in whatever order their edges allow, then the others one behind the other -/
theorem hw_held2 {P : Program} {r : Option Nat} {N : Sz} {Q : Post} {f : Frm} {H : Heap} {id : Nat} {l : List Oper} (k : Nat) (St : Heap → Prop) (π π2 : Sch) (hm : P.follows .mixedOrders = true)
    (hB : (noDefer l && tailOk (l.take k) (l.drop k) && Region.noSelect (l.take k).toArray && Region.noSelect l.toArray && sched (l.take k) π (Array.replicate (l.take k).length false) && sched l π2 (Array.replicate (l.take k).length true ++ Array.replicate (l.drop k).length false) && Nat.ble π.depth (l.take k).length && Nat.ble π2.depth (l.drop k).length) = true) (hS : St H)
    (h : HD P N (l.take k) St (pickOps (l.take k) π) (fun f' H' => HD P N l (fun _ => True) (pickOps l π2) (fun f' H' => Q .normal f' H') f' H') f H) : HW P r N (.region id l.toArray true) Q f H := by
  intro w0 a w h1 h2 h3
  simp only [Bool.and_eq_true] at hB
  obtain ⟨⟨⟨⟨⟨⟨⟨b0, b1⟩, b2⟩, b3⟩, b4⟩, b5⟩, b6⟩, b7⟩ := hB
  refine wpIn_region_any hm ?_
  subst h2
  refine wpA_in b0 (K := QF N w0 fun f' H' => Q .normal f' H') (fun a w hk => hk) _ _ _ _ ?_
  have hl : l.take k ++ l.drop k = l := List.take_append_drop k l
  have hn : l.toArray.size = (l.take k).length + (l.drop k).length := by rw [← List.length_append, hl]; simp
  have first := hd_sound b2 π _ _ a { w with drawn := w.drawn + 1 } b4 (Nat.le_of_ble_eq_true b6) ⟨hS, .refl _⟩ (h w.heap w0 a _ h1.1 (.refl _) h1 rfl (h3.trans ⟨rfl, rfl, rfl, .refl _, Nat.le_succ _⟩))
  have second : ∀ a w, QF N w0 (fun f' H' => HD P N l (fun _ => True) (pickOps l π2) (fun f' H' => Q .normal f' H') f' H') a w →
      wpA P (l.take k ++ l.drop k).toArray (QF N w0 fun f' H' => Q .normal f' H') (l.drop k).length (Array.replicate (l.take k).length true ++ Array.replicate (l.drop k).length false) a w := by
    rintro a w ⟨henv, f', hf, hh⟩
    rw [hl]
    exact wpA_of_held _ _ _ _ (hd_sound b3 π2 _ _ a w b5 (Nat.le_of_ble_eq_true b7) ⟨trivial, .refl _⟩ (hh w.heap w0 a w hf.1 (.refl _) hf rfl henv))
  have all := wpA_prefix b1 second _ _ a _ (by simp) (wpA_of_held _ _ _ _ first)
  rw [hl] at all
  rw [hn]
  have e1 : Array.replicate ((l.take k).length + (l.drop k).length) false = Array.replicate (l.take k).length false ++ Array.replicate (l.drop k).length false := by simp
  rw [e1]
  exact all
theorem hw_held {P : Program} {r : Option Nat} {N : Sz} {Q : Post} {f : Frm} {H : Heap} {id : Nat} {l : List Oper} (St : Heap → Prop) (π : Sch) (hm : P.follows .mixedOrders = true)
    (hB : (noDefer l && Region.noSelect l.toArray && sched l π (Array.replicate l.length false) && Nat.ble π.depth l.length) = true) (hS : St H)
    (h : HD P N l St (pickOps l π) (fun f' H' => Q .normal f' H') f H) : HW P r N (.region id l.toArray true) Q f H := by
  intro w0 a w h1 h2 h3
  simp only [Bool.and_eq_true] at hB
  obtain ⟨⟨⟨b0, b1⟩, b2⟩, b3⟩ := hB
  refine wpIn_region_any hm ?_
  subst h2
  have := wpA_of_held (S := fun w' => St w'.heap ∧ Keep w.heap w'.heap) (K := QF N w0 fun f' H' => Q .normal f' H') _ _ _ _ (hd_sound b1 π _ _ a { w with drawn := w.drawn + 1 } (by simpa using b2) (by simpa using Nat.le_of_ble_eq_true b3) ⟨hS, .refl _⟩ (h w.heap w0 a _ h1.1 (.refl _) h1 rfl (h3.trans ⟨rfl, rfl, rfl, .refl _, Nat.le_succ _⟩)))
  exact wpA_in b0 (fun a w hk => hk) _ _ _ _ this
section
variable {P : Program} {N : Sz} {f : Frm} {H : Heap} {St : Heap → Prop} {op : Op} {ty : TypeId} {p : String} {af : Array Edge} {j : Nat} {want : Bool}
variable {l0 : List Oper} {rest : Tr} {d : Nat} {Q : Frm → Heap → Prop}
theorem hd_nil (h : Q f H) : HD P N l0 St .done Q f H := fun _ _ _ _ _ _ h1 h2 h3 => ⟨h3, f, h2 ▸ h1, h2 ▸ h⟩
theorem hd_two {o o' : Oper} {r s : Tr} (k : HD P N l0 St (.step true o r) Q f H) (k' : HD P N l0 St (.step true o' s) Q f H) : HD P N l0 St (.two o o' r s) Q f H := fun Hr w0 a w g1 g2 h1 h2 h3 => ⟨k Hr w0 a w g1 g2 h1 h2 h3, k' Hr w0 a w g1 g2 h1 h2 h3⟩
theorem hd_more {o : Oper} {r s : Tr} (k : HD P N l0 St (.step true o r) Q f H) (k' : HD P N l0 St s Q f H) : HD P N l0 St (.more o r s) Q f H := fun Hr w0 a w g1 g2 h1 h2 h3 => ⟨k Hr w0 a w g1 g2 h1 h2 h3, k' Hr w0 a w g1 g2 h1 h2 h3⟩
theorem hd_last {o : Oper} {r : Tr} (k : HD P N l0 St (.step true o r) Q f H) : HD P N l0 St (.last o r) Q f H := fun Hr w0 a w g1 g2 h1 h2 h3 => k Hr w0 a w g1 g2 h1 h2 h3
theorem hd_sub (g : Frm) (hg : AllIn f g) {l : Tr} (k : HD P N l0 St l Q g H) : HD P N l0 St l Q f H := fun Hr w0 a w g1 g2 h1 h2 h3 => k Hr w0 a w g1 g2 (h1.sub hg) h2 h3
theorem OpV.run {v : Value} {dd : Option Tmp} {g : Option (Nat × Bool)} (hp : plainOp op = true) (h : OpV P N op ty f H v) {a : Act} (h1 : FS N f a H) {w : World} (h2 : w.heap = H) : (execOp a.eval ⟨dd, op, ty, p, af, g⟩).run P w = .ok (.value v) w := by
  have := h a w h1 h2
  rw [execOp_opx]
  cases hr : (execOp a.eval (opx op ty)).run P w with
  | halt x w' => rw [hr] at this; exact this.elim
  | ok x w' =>
    obtain ⟨u, rfl⟩ := plain_value hp ty a.eval hr
    rw [hr] at this
    obtain ⟨rfl, rfl⟩ := this
    rfl
theorem hd_v {v : Value} (hp : plainOp op = true) (h : ∀ H', St H' → OpV P N op ty f H' v) (hd : Nat.blt d N.1 = true) (k : HD P N l0 St rest Q ((d, v) :: f) H) :
    HD P N l0 St (.step false ⟨some d, op, ty, p, af, none⟩ rest) Q f H := by
  intro Hr w0 a w g1 g2 h1 h2 h3
  exact ⟨v, .inl ⟨rfl, fun w' hS => (h _ hS.1).run hp ⟨g1.to hS.2, h1.2⟩ rfl⟩, k Hr w0 _ w (g1.put _ _) g2 (h1.put (blt_lt hd) _) h2 h3⟩
theorem hd_g {vg v : Value} {dj : Nat} (hp : plainOp op = true) (hj : gslot l0 j = some dj) (hv : lk f dj = some vg) (h : gb vg want = true → ∀ H', St H' → OpV P N op ty f H' v) (hd : Nat.blt d N.1 = true)
    (k : HD P N l0 St rest Q ((d, gv (gb vg want) v) :: f) H) : HD P N l0 St (.step false ⟨some d, op, ty, p, af, some (j, want)⟩ rest) Q f H := by
  intro Hr w0 a w g1 g2 h1 h2 h3
  refine ⟨gv (gb vg want) v, ?_, k Hr w0 _ w (g1.put _ _) g2 (h1.put (blt_lt hd) _) h2 h3⟩
  cases hc : gb vg want
  · exact .inr ⟨by rw [wanted_of h1 hj hv, hc], rfl⟩
  · exact .inl ⟨by rw [wanted_of h1 hj hv, hc], fun w' hS => (h hc _ hS.1).run hp ⟨g1.to hS.2, h1.2⟩ rfl⟩
theorem OpH.wp {dd : Option Tmp} {g : Option (Nat × Bool)} {R : Value → Heap → Prop} (h : OpH P N op ty f H R) {a : Act} {w w0 : World} (h1 : FS N f a H) (h2 : w.heap = H) (h3 : Env w0 w) {K : Act → World → Prop}
    (k : ∀ v w', Keep H w'.heap → Env w0 w' → R v w'.heap → K (a.put dd v) w') : oW P ⟨dd, op, ty, p, af, g⟩ a w K := by
  unfold oW
  rw [execOp_opx]
  have := h a w h1 h2
  generalize (execOp a.eval (opx op ty)).run P w = res at *
  cases res with
  | halt x w' => exact this.elim
  | ok x w' =>
    cases x <;> simp only [hupon] at this <;> try exact this.elim
    · exact k _ _ (h2 ▸ this.1.keep) (h3.trans this.1) this.2
    · exact k _ _ (h2 ▸ this.1.keep) (h3.trans this.1) this.2
    · exact Calls.mono this fun e w'' ⟨v, he, h4, h5⟩ => ⟨v, he, k _ _ (h2 ▸ h4.keep) (h3.trans h4) h5⟩
theorem OpY.wp {dd : Option Tmp} {g : Option (Nat × Bool)} {R : Value → Heap → Prop} (h : OpY P N op ty f H R) {a : Act} {w w0 : World} (h1 : FS N f a H) (h2 : w.heap = H) (h3 : Env w0 w) {K : Act → World → Prop}
    (k : ∀ v w', Keep H w'.heap → Env w0 w' → R v w'.heap → K (a.put dd v) w') : oW P ⟨dd, op, ty, p, af, g⟩ a w K := by
  unfold oW
  rw [execOp_opx]
  obtain ⟨l, fn, tmps, assign, body, w', hrun, hc⟩ := h.2 a w h1 h2
  rw [hrun]
  subst h2
  have hw := h.2 a w h1 rfl
  exact RoundIn.mono hc fun e w'' ⟨v, he, h4, h5⟩ => ⟨v, he, k _ _ h4.keep (h3.trans h4) h5⟩
theorem hd_h {R : Value → Heap → Prop} (h : OpH P N op ty f H R) (hS : ∀ v H', R v H' → St H') (hd : Nat.blt d N.1 = true) (k : ∀ v H', R v H' → HD P N l0 St rest Q ((d, v) :: f) H') :
    HD P N l0 St (.step true ⟨some d, op, ty, p, af, none⟩ rest) Q f H := by
  intro Hr w0 a w g1 g2 h1 h2 h3
  show if _ then _ else _
  rw [show Region.wanted (⟨some d, op, ty, p, af, none⟩ : Oper) (yielded l0.toArray a.tmps) = true from rfl, if_pos rfl]
  exact h.wp h1 h2 h3 fun v w' hk h4 h5 => ⟨⟨hS _ _ h5, g2.trans hk⟩, k v w'.heap h5 Hr w0 _ _ (g1.put _ _) (g2.trans hk) ((h1.put (blt_lt hd) _).to hk) rfl h4⟩
theorem hd_s {R : Value → Heap → Prop} (h : OpH P N op ty f H R) (hS : ∀ v H', R v H' → St H') (k : ∀ v H', R v H' → HD P N l0 St rest Q f H') :
    HD P N l0 St (.step true ⟨none, op, ty, p, af, none⟩ rest) Q f H := by
  intro Hr w0 a w g1 g2 h1 h2 h3
  show if _ then _ else _
  rw [show Region.wanted (⟨none, op, ty, p, af, none⟩ : Oper) (yielded l0.toArray a.tmps) = true from rfl, if_pos rfl]
  exact h.wp h1 h2 h3 fun v w' hk h4 h5 => ⟨⟨hS _ _ h5, g2.trans hk⟩, k v w'.heap h5 Hr w0 _ _ (g1.put _ _) (g2.trans hk) ((h1.put_none _).to hk) rfl h4⟩
end
end
section
theorem ite_t {c : Prop} [Decidable c] {a b : Prop} (h : if c then a else b) (hc : c) : a := by rwa [if_pos hc] at h
theorem ite_f {c : Bool} {a b : Prop} (h : if c = true then a else b) (hc : c = false) : b := by rw [hc] at h; simpa using h
theorem le63 {n b : Nat} (h : n * b ≤ 140737488355328) (hb : Nat.blt 0 b = true) : n ≤ 9223372036854775807 := by
  have h1 := blt_lt hb
  have h2 : n * 1 ≤ n * b := Nat.mul_le_mul_left _ h1
  omega
section
variable {α : Type} {r : Rep α} {H : Heap} {S : Nat → Prop} {v : Value} {l : List α} {lo hi : Int} {sz : Nat}
theorem slv_of (h : Sl r H S v l) (hb : 0 ≤ lo ∧ lo ≤ hi ∧ hi ≤ l.length) (hsz : r.sz = sz) : Sl r H S (slv v sz lo.toNat (hi.toNat - lo.toNat)) ((l.take hi.toNat).drop lo.toNat) := h.slv (by omega) (by omega) hsz
theorem slvl_of (h : Sl r H S v l) (hb : 0 ≤ lo ∧ lo ≤ l.length) (hsz : r.sz = sz) : Sl r H S (slv v sz lo.toNat (l.length - lo.toNat)) (l.drop lo.toNat) := h.slvl (by omega) hsz
theorem slvh_of (h : Sl r H S v l) (hb : 0 ≤ hi ∧ hi ≤ l.length) (hsz : r.sz = sz) : Sl r H S (slv v sz 0 hi.toNat) (l.take hi.toNat) := h.slvh (by omega) hsz
end
section
variable {P : Program} {N : Sz} {f : Frm} {H : Heap} {St : Heap → Prop} {l0 : List Oper} {rest : Tr} {d : Nat} {op : Op} {ty : TypeId} {p : String} {af : Array Edge} {j : Nat} {want : Bool} {Q : Frm → Heap → Prop}
theorem hd_gc {vg v : Value} {dj : Nat} {R : Heap → Prop} (hj : gslot l0 j = some dj) (hv : lk f dj = some vg) (h : gb vg want = true → OpH P N op ty f H (fun v' H' => v' = v ∧ R H')) (h0 : R H) (hS : ∀ H', R H' → St H') (hd : Nat.blt d N.1 = true)
    (k : ∀ H', R H' → HD P N l0 St rest Q ((d, gv (gb vg want) v) :: f) H') : HD P N l0 St (.step true ⟨some d, op, ty, p, af, some (j, want)⟩ rest) Q f H := by
  intro Hr w0 a w g1 g2 h1 h2 h3
  show if _ then _ else _
  rw [wanted_of h1 hj hv]
  cases hc : gb vg want
  · rw [if_neg (by simp)]
    have := k H h0
    rw [hc] at this
    exact this Hr w0 _ w (g1.put _ _) g2 (h1.put (blt_lt hd) _) h2 h3
  · rw [if_pos rfl]
    refine (h hc).wp h1 h2 h3 fun v' w' hk h4 ⟨h5, h6⟩ => ?_
    subst h5
    have := k _ h6
    rw [hc] at this
    exact ⟨⟨hS _ h6, g2.trans hk⟩, this Hr w0 _ _ (g1.put _ _) (g2.trans hk) ((h1.put (blt_lt hd) _).to hk) rfl h4⟩
end
/-! ## slices of data that hold slices -/
def relAll {α : Type} (r : Rep α) (H : Heap) (Z : Nat → Prop) : List (List Value) → List α → Prop
  | [], [] => True
  | cs :: css, x :: l => r.rel H Z cs x ∧ relAll r H Z css l
  | _, _ => False
section
variable {α : Type} {r : Rep α} {H H' : Heap} {Z Z' : Nat → Prop} {css css' : List (List Value)} {l l' : List α}
theorem relAll.len : ∀ {css : List (List Value)} {l : List α}, relAll r H Z css l → css.length = l.length
  | [], [], _ => rfl
  | _ :: _, _ :: _, ⟨_, h⟩ => by simp [h.len]
  | [], _ :: _, h => h.elim
  | _ :: _, [], h => h.elim
theorem relAll.keep : ∀ {css : List (List Value)} {l : List α}, relAll r H Z css l → (∀ b, Z b → b < H.size → H'[b]? = H[b]?) → (∀ b, Z b → Z' b) → relAll r H' Z' css l
  | [], [], _, _, _ => trivial
  | _ :: _, _ :: _, ⟨h1, h2⟩, hb, hz => ⟨r.ext h1 hb hz, h2.keep hb hz⟩
  | [], _ :: _, h, _, _ => h.elim
  | _ :: _, [], h, _, _ => h.elim
theorem relAll.get : ∀ {css : List (List Value)} {l : List α}, relAll r H Z css l → ∀ (i : Nat) (h : i < l.length), ∃ cs, css[i]? = some cs ∧ r.rel H Z cs l[i]
  | [], [], _, i, h => by simp at h
  | cs :: _, _ :: _, ⟨h1, _⟩, 0, _ => ⟨cs, rfl, h1⟩
  | _ :: _, _ :: _, ⟨_, h2⟩, i + 1, h => h2.get i (by simpa using h)
  | [], _ :: _, h, _, _ => h.elim
  | _ :: _, [], h, _, _ => h.elim
theorem relAll.app : ∀ {css : List (List Value)} {l : List α}, relAll r H Z css l → relAll r H Z css' l' → relAll r H Z (css ++ css') (l ++ l')
  | [], [], _, h => h
  | _ :: _, _ :: _, ⟨h1, h2⟩, h => ⟨h1, h2.app h⟩
  | [], _ :: _, h, _ => h.elim
  | _ :: _, [], h, _ => h.elim
theorem relAll.one : ∀ {css : List (List Value)} {l : List α}, relAll r H Z css l → ∀ u ∈ css.flatten, u.oneCell' = true
  | [], [], _, u, hu => by simp at hu
  | _ :: _, _ :: _, ⟨h1, h2⟩, u, hu => by
    simp only [List.flatten_cons, List.mem_append] at hu
    rcases hu with hu | hu
    · exact r.one h1 u hu
    · exact h2.one u hu
  | [], _ :: _, h, _, _ => h.elim
  | _ :: _, [], h, _, _ => h.elim
theorem relAll.cell {sz : Nat} (hsz : r.sz = sz) : ∀ {css : List (List Value)} {l : List α}, relAll r H Z css l → ∀ {i : Nat} {cs : List Value} {j : Nat}, css[i]? = some cs → j < sz → css.flatten[i * sz + j]? = cs[j]?
  | [], [], _, i, cs, j, h, _ => by simp at h
  | c :: _, _ :: _, ⟨h1, _⟩, 0, cs, j, h, hj => by
    simp only [List.getElem?_cons_zero, Option.some.injEq] at h
    subst h
    rw [List.flatten_cons, Nat.zero_mul, Nat.zero_add, List.getElem?_append_left (by rw [r.len h1, hsz]; exact hj)]
  | c :: _, _ :: _, ⟨h1, h2⟩, i + 1, cs, j, h, hj => by
    simp only [List.getElem?_cons_succ] at h
    have hl := r.len h1
    rw [List.flatten_cons, List.getElem?_append_right (by rw [hl, hsz, Nat.add_mul]; omega), hl, hsz, show (i + 1) * sz + j - sz = i * sz + j by rw [Nat.add_mul]; omega]
    exact h2.cell hsz h hj
  | [], _ :: _, h, _, _, _, _, _ => h.elim
  | _ :: _, [], h, _, _, _, _, _ => h.elim
end
/-- a slice of the call's own whose elements hold slices that nobody turns -/
def OwG {α : Type} (r : Rep α) (H : Heap) (Z : Nat → Prop) (e : TypeId) (v : Value) (l : List α) : Prop := ∃ css, OwR H 0 e r.sz v l.length css.flatten ∧ relAll r H Z css l
section
variable {α : Type} {r : Rep α} {H H' : Heap} {Z Z' : Nat → Prop} {e : TypeId} {v v' : Value} {l l' : List α} {L : List As} {i : Nat}
theorem OwG.sl (h : OwG r H Z e v l) (hpos : 0 < r.sz) : Sl r H (fun b => Z b ∨ b ∈ mb v) v l := by
  obtain ⟨css, h1, h2⟩ := h
  obtain ⟨k1, k2⟩ := h1
  rcases k2 with ⟨rfl, h3⟩ | ⟨k, cap, cur, rfl, h3, h4, h5, h6, h7, h8⟩
  · have : l = [] := List.eq_nil_of_length_eq_zero h3
    subst this; exact Sl.nil
  · refine ⟨rfl, ⟨h5, by show (cap : Int) ≤ _; simp only [maxLen] at h6; omega⟩, fun i hi => ?_⟩
    obtain ⟨cs, h9, h10⟩ := h2.get i hi
    refine ⟨rfl, .inr (by simp [mb, sb]), cs, ?_, r.ext h10 (fun _ _ _ => rfl) fun _ h => .inl h⟩
    intro j u hu
    have hj : j < r.sz := by have := (List.getElem?_eq_some_iff.1 hu).1; rwa [r.len h10] at this
    have hlt : i * r.sz + j < l.length * r.sz := by
      have : (i + 1) * r.sz ≤ l.length * r.sz := Nat.mul_le_mul_right _ hi
      rw [Nat.add_mul] at this; omega
    have h11 := h2.cell rfl h9 hj
    rw [← h8, List.getElem?_take, if_pos hlt, hu] at h11
    show cellH H k (0 + i * r.sz + j) = some u
    rw [Nat.zero_add]
    simp only [cellH, h4]; simpa using h11
theorem OwG.lt (h : OwG r H Z e v l) : ∀ b, b ∈ mb v → b < H.size := by
  obtain ⟨css, h1, _⟩ := h
  intro b hb
  rcases h1.2 with ⟨rfl, _⟩ | ⟨k, cap, cur, rfl, h3, h4, _⟩
  · simp [mb] at hb
  · simp [mb] at hb; subst hb; exact (Array.getElem?_eq_some_iff.1 h4).1
theorem OwG.nil : OwG r H Z e (.slice none 0 0) [] := ⟨[], ⟨by simp, .inl ⟨rfl, rfl⟩⟩, trivial⟩
/-- what an append to it takes: data of which all is shut -/
def SrcR {α : Type} (r : Rep α) (H : Heap) (Z : Nat → Prop) (v : Value) (l : List α) : Prop := l = [] ∧ v = .slice (sa v) 0 (sc v) ∨ ∃ css, relAll r H Z css l ∧ At H (sb v) (so v) css.flatten ∧ v = .slice (some ⟨sb v, so v, none⟩) l.length (sc v)
theorem SrcR.nil : SrcR r H Z (.slice none 0 0) [] := .inl ⟨rfl, rfl⟩
variable {P : Program} {N : Sz} {f : Frm} {ty t t' : TypeId} {x y z : Operand}
/-- an element of a slice of slices -/
theorem sl_row {l : List (List α)} {i : Int} [Inhabited α] (h : Sl (Rep.sl r) H Z v l) (hi : 0 ≤ i ∧ i < l.length) : ∃ u, cellH H (sb v) (so v + i.toNat * 1) = some u ∧ Sl r H Z u (l.getD i.toNat default) := by
  have hi' : i.toNat < l.length := by omega
  obtain ⟨_, _, cs, h3, u, rfl, h5⟩ := h.mem i.toNat hi'
  rw [show l.getD i.toNat default = l[i.toNat] by simp [List.getD, hi']]
  exact ⟨u, h3 0 u rfl, h5⟩
end
/-! ## records made of parts; slices held against nil -/
section
variable {P : Program} {N : Sz} {f : Frm} {H : Heap} {ty t t' : TypeId} {x y : Operand}
theorem evs_zip {a : Act} {H : Heap} (hf : FS N f a H) : ∀ {xs : List Operand} {vs : List Value} {is : List Nat}, evs f xs vs → (is.zip xs).map (fun p => (p.1, a.eval p.2)) = is.zip vs
  | [], [], is, _ => by simp
  | [], _ :: _, _, h => h.elim
  | _ :: _, [], _, h => h.elim
  | x :: xs, v :: vs, [], _ => rfl
  | x :: xs, v :: vs, i :: is, ⟨h1, h2⟩ => by simp only [List.zip_cons_cons, List.map_cons, hf.ev h1, evs_zip hf h2]
theorem v_buildF {parts : List (Nat × Operand)} {xs : List Operand} {vs cs : List Value} {is : List Nat} (hp : parts = is.zip xs) (hv : evs f xs vs) (hr : ∀ w, (Instr.build t (is.zip vs).toArray).run P w = .ok (.agg cs.toArray) w) :
    OpV P N (.build t parts.toArray) ty f H (.agg cs.toArray) := by
  intro a w hf hH
  subst hp
  simp only [opx, execOp, List.map_toArray, evs_zip hf hv]
  exact quiet_pure (hr w)
def isNil : Value → Bool | .slice none _ _ => true | _ => false
theorem Sl.isNil {α : Type} {r : Rep α} {S : Nat → Prop} {v : Value} {l : List α} (h : Sl r H S v l) (hn : isNil v = true) : l = [] := by
  cases l with
  | nil => rfl
  | cons a l =>
    have := (h.mem 0 (by simp)).1
    rw [this] at hn; cases hn
end
end
section
section
variable {α : Type} {g : Flat α} {r : Rep α} {P : Program} {N : Sz} {f : Frm} {H : Heap} {Z : Nat → Prop} {L : List As} {ty t t' e : TypeId} {x y : Operand} {S : Nat → Prop} {v : Value} {l : List α}
theorem run_eqlNil (w : World) {a : Option Addr} {n c : Nat} (ht : P.underlying t = some (.slice e)) : (binOp .eql t (.slice a n c) (.slice none 0 0)).run P w = .ok (.bool a.isNone) w ∧ (binOp .neq t (.slice a n c) (.slice none 0 0)).run P w = .ok (.bool (!a.isNone)) w := by
  have h : ∀ d : Nat, (Op.equalIn (d + 1) t (.slice a n c) (.slice none 0 0)).run P w = .ok a.isNone w := fun d => by
    cases a <;> simp [Op.equalIn, run_underlying ht]
  constructor
  · simp only [binOp]; simp [Op.equal, Op.maxDepth, h 9999]
  · simp only [binOp]; simp [Op.equal, Op.maxDepth, h 9999]
theorem v_eqlNil (ht : P.underlying t = some (.slice e)) (hx : ev f x = some v) (hs : Sl r H S v l) : OpV P N (.binOp .eql t x (.const (.slice none 0 0)) t') ty f H (.bool (isNil v)) := by
  obtain ⟨a, hv⟩ : ∃ a, v = .slice a l.length (sc v) := ⟨_, hs.shape⟩
  generalize sc v = c at hv
  clear hs
  subst hv
  have e1 : isNil (.slice a l.length c) = a.isNone := by cases a <;> rfl
  refine v_bin hx (y := .const (.slice none 0 0)) (v := .slice none 0 0) rfl fun w => ?_
  rw [e1, Sem.run_bind, show (eqGuard .eql t x (.const (.slice none 0 0)) (.slice a l.length c) (.slice none 0 0)).run P w = .ok () w by simp [eqGuard], Result.andThen_ok]
  exact (run_eqlNil w ht).1
theorem h_lit0 {sz : Nat} (ht : P.underlying t = some (.slice e)) (hs : ∀ w, (sizeOf e).run P w = .ok sz w) : OpH P N (.buildSlice t 0 #[]) ty f H (fun v H' => v = .slice (some ⟨H.size, 0, none⟩) 0 0 ∧ New H H' [] e) := by
  intro a w hf hH
  subst hH
  simp only [opx, execOp, Instr.buildSlice, Sem.run_bind, run_underlying ht, hs, Result.andThen_ok, Nat.zero_mul, Sem.run_pure]
  simp [Instr.fill, run_newRow]
  have e0 : (Array.map (fun _ => (default : Value)) (Array.range 0)) = #[] := by simp
  rw [e0]
  exact ⟨⟨rfl, rfl, rfl, (New.push _ [] _).ext.keep, Nat.le_refl _⟩, rfl, New.push _ [] _⟩
theorem o_lit0 {sz : Nat} (hO : Own H Z L) (ht : P.underlying t = some (.slice e)) (hs : ∀ w, (sizeOf e).run P w = .ok sz w) : OpH P N (.buildSlice t 0 #[]) ty f H (fun v H' => Own H' Z (own g e v [] :: L)) :=
  (h_lit0 ht hs).mono fun v H' ⟨h1, h2⟩ => by
    subst h1
    refine hO.made (H' := H') ⟨by simp, .inr ⟨H.size, 0, _, rfl, Nat.le_refl _, h2.blk, Nat.le_refl _, by simp only [maxLen]; omega, by simp, by simp⟩⟩ h2.ext
end
section
variable {α : Type} {g : Flat α} {P : Program} {N : Sz} {f : Frm} {H : Heap} {Z : Nat → Prop} {L : List As} {ty t e : TypeId} {x y : Operand} {v : Value} {l : List α} {i : Nat}
/-- an own slice is cut behind: what stays -/
theorem Own.trunc (h : Own H Z L) (hi : L[i]? = some (own g e v l)) {k sz : Nat} (hk : k ≤ l.length) : Own H Z (L.set i (own g e (slv v sz 0 k) (l.take k))) := by
  obtain ⟨D, ⟨h1, h2⟩, h3, h4⟩ := h.upd hi
  have hmb : ∀ b, b ∈ mb (slv v sz 0 k) ↔ b ∈ mb v := by
    intro b
    rcases h1.2 with ⟨rfl, _⟩ | ⟨j, cap, cur, rfl, _⟩
    · simp [slv, sc, sa, mb]
    · simp only [slv, sc, sa]
      by_cases hc : cap = 0 <;> simp [mb, Addr.add, hc]
  refine h4 (D' := D) ⟨?_, fun b => (h2 b).trans (hmb b).symm⟩ (fun b hb => .inl hb) (Nat.le_refl _) fun _ _ _ => rfl
  have hl : (l.take k).length = k := by rw [List.length_take]; omega
  obtain ⟨k1, k2⟩ := h1
  refine ⟨flat_len g _, ?_⟩
  rcases k2 with ⟨rfl, h5⟩ | ⟨j, cap, cur, rfl, h5, h6, h7, h8, h9, h10⟩
  · left
    have : k = 0 := by omega
    subst this
    exact ⟨rfl, by simp⟩
  · right
    refine ⟨j, cap, cur, ?_, h5, h6, by omega, h8, h9, ?_⟩
    · rw [hl]
      show (Value.slice (if cap = 0 then _ else _) k (cap - 0)) = _
      simp only [sa]
      by_cases hc : cap = 0 <;> simp [Addr.add, hc]
    · rw [hl]
      have e1 : (l.take k).flatMap g.enc = (l.flatMap g.enc).take (k * g.sz) := by
        have h11 : l.flatMap g.enc = (l.take k).flatMap g.enc ++ (l.drop k).flatMap g.enc := by rw [← List.flatMap_append, List.take_append_drop]
        have h12 : ((l.take k).flatMap g.enc).length = k * g.sz := by rw [flat_len, hl]
        rw [h11, ← h12]; exact List.take_left.symm
      rw [e1, ← h10, List.take_take]
      congr 1
      have := Nat.mul_le_mul_right g.sz hk
      omega
end
section
variable {P : Program} {N : Sz} {f : Frm} {H : Heap} {ty t e : TypeId} {x : Operand}
end
section
variable {P : Program} {b : Frame} {a : Act} {k : List Item} {cs : List Frame} {w : World}
end
section
variable {P : Program} {r : Option Nat} {N : Sz} {Q : Post} {f : Frm} {H : Heap}
end
theorem Sl.inb {α : Type} {g : Flat α} {H : Heap} {S : Nat → Prop} {v : Value} {l : List α} (h : Sl g.rep H S v l) (hpos : 0 < g.sz) : Sl g.rep H (fun b => b < H.size) v l :=
  ⟨h.shape, h.cap, fun i hi => by
    obtain ⟨h1, h2, cs, h3, h4⟩ := h.mem i hi
    exact ⟨h1, h3.lt (by have e := g.len l[i]; have h5 : cs = g.enc l[i] := h4; rintro rfl; rw [← h5] at e; simp at e; omega), cs, h3, h4⟩⟩
theorem Sl.sh {α : Type} {r : Rep α} {H : Heap} {S : Nat → Prop} {v : Value} {l : List α} (h : Sl r H S v l) : ∃ a n c, v = .slice a n c := ⟨_, _, _, h.shape⟩
end
section
theorem Fz.law {α : Type} {r : Rep α} {H0 : Heap} {v : Value} {l : List α} (h : Sl r H0 (inD H0) v l) : Fz r [was H0] v l := fun H Z hO => by
  obtain ⟨D, ⟨h1, _⟩, _⟩ := hO.get (i := 0) rfl
  exact h.keep (fun b hb hlt => (h1 b hb).2.2) fun b hb => (h1 b hb).1
theorem law_true {P : Program} {g : FuncId} {args : List Value} {H0 : Heap} (h : HC P g args H0 (fun v H' => ∃ Z' : Nat → Prop, (∀ b, inD H0 b → Z' b) ∧ v = .bool true ∧ Own H' Z' [was H0])) : HC P g args H0 (fun v H' => v = .bool true ∧ Ext [] H0 H') :=
  fun w hw => (h w hw).mono fun e w' ⟨v, he, henv, Z', _, h1, h2⟩ => ⟨v, he, henv, h1, h2.same (i := 0) rfl (hw ▸ henv.keep)⟩
theorem uncons {α : Type} {l : List α} {n : Nat} (h : l.length = n + 1) : ∃ a r, l = a :: r ∧ r.length = n := by
  cases l with
  | nil => simp at h
  | cons a r => exact ⟨a, r, rfl, by simpa using h⟩
end
section
section
variable {P : Program} {r : Option Nat} {N : Sz} {Q : Post} {f : Frm} {H : Heap} {l0 rest : List Oper} {d : Nat} {op : Op} {ty : TypeId} {p : String} {af : Array Edge} {j : Nat} {want : Bool}
end
section
variable {P : Program} {N : Sz} {Q : Frm → Heap → Prop} {f : Frm} {H : Heap} {St : Heap → Prop} {l0 : List Oper} {rest : Tr} {d : Nat} {op : Op} {ty : TypeId} {p : String} {af : Array Edge} {j : Nat} {want : Bool}
end
/-- a region whose orders meet again: what stands behind it -/
theorem hw_hj {P : Program} {r : Option Nat} {N : Sz} {Q : Post} {f : Frm} {H : Heap} {c : Code} (K : Frm → Heap → Prop) (h : HW P r N c (fun e f' H' => e = .normal ∧ K f' H') f H) (k : ∀ f' H', K f' H' → Q .normal f' H') : HW P r N c Q f H :=
  hw_mono h fun e f' H' hk => by obtain ⟨he, hk⟩ := hk; subst he; exact k f' H' hk
end
end Go.Proofs.YtaopgjfioabfpaaGreat
