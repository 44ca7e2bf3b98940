/- Functions over the heap-level logic: contracts, calls, returns. No condition. -/
import Derived.Test.YtbaciogbhjcdoaaMem
import Derived.Tactics
set_option linter.unusedSimpArgs false
set_option linter.unusedVariables false
namespace Go.Proofs.Ytbaciogbhjcdoaa

/-- A contract: the call returns v with a heap H', of which R holds. -/
def HC (P : Program) (g : FuncId) (args : List Value) (H : Heap) (R : Value → Heap → Prop) : Prop :=
  ∀ w, w.heap = H → Calls P g args.toArray w fun e w' => ∃ v, e = .returned v ∧ Env w w' ∧ R v w'.heap

theorem HC.mono {P : Program} {g : FuncId} {args : List Value} {H : Heap} {R R' : Value → Heap → Prop} (h : HC P g args H R) (hr : ∀ v H', R v H' → R' v H') : HC P g args H R' :=
  fun w hw => (h w hw).mono fun _ _ ⟨v, h1, h2, h3⟩ => ⟨v, h1, h2, hr _ _ h3⟩

def argf : Nat → List Value → Frm
  | _, [] => []
  | k, v :: r => (k, v) :: argf (k + 1) r

theorem lk_argf : ∀ (l : List Value) (k t : Nat) (v : Value), lk (argf k l) t = some v → k ≤ t ∧ l[t - k]? = some v
  | [], k, t, v, h => by simp [argf, lk] at h
  | u :: r, k, t, v, h => by
    simp only [argf, lk_cons] at h
    split at h
    · rename_i e; subst e; cases h; simp
    · rename_i e
      obtain ⟨h1, h2⟩ := lk_argf r (k + 1) t v h
      refine ⟨by omega, ?_⟩
      rw [show t - k = (t - (k + 1)) + 1 by omega, List.getElem?_cons_succ]; exact h2

/-- what a result's variable holds -/
def resV (P : Program) (H : Heap) (f : Frm) : ResultVar → Value → Prop
  | .tmp t, v => lk f t = some v
  | .cell a t, v => ∃ b o, lk f a = some (ptr b o) ∧ ∀ w, w.heap = H → (loadVar t ⟨b, o, none⟩).run P w = .ok v w

def resAll (P : Program) (H : Heap) (f : Frm) : List ResultVar → List Value → Prop
  | [], [] => True
  | x :: r, v :: s => resV P H f x v ∧ resAll P H f r s
  | _, _ => False

def tup : List Value → Value
  | [v] => v
  | l => .tuple l.toArray

def retQ (P : Program) (rs : List ResultVar) (R : Value → Heap → Prop) : Post
  | .ret, f, H => ∃ vs, resAll P H f rs vs ∧ R (tup vs) H
  | .normal, f, H => ∃ vs, resAll P H f rs vs ∧ R (tup vs) H
  | _, _, _ => False

theorem run_resList {P : Program} {f : Frm} {w : World} (g : ResultVar → Sem Value) (hg : ∀ x v, resV P w.heap f x v → (g x).run P w = .ok v w) :
    ∀ (rs : List ResultVar) (vs : List Value), resAll P w.heap f rs vs → (rs.mapM g).run P w = .ok vs w
  | [], [], _ => rfl
  | [], _ :: _, h => h.elim
  | _ :: _, [], h => h.elim
  | x :: r, v :: s, ⟨h1, h2⟩ => by
    simp only [List.mapM_cons, Sem.run_bind, run_resList g hg r s h2, hg x v h1, Result.andThen_ok, Sem.run_pure]

theorem run_results {P : Program} {N : Sz} {fn : Func} {rs : List ResultVar} {f : Frm} {a : Act} {w : World} {vs : List Value} (hrs : fn.results = rs.toArray) {H : Heap} (hf : FS N f a H) (h : resAll P w.heap f rs vs) :
    (results fn a.tmps).run P w = .ok (tup vs) w := by
  have hg : ∀ (t : Nat) (v : Value), lk f t = some v → a.tmps.getD t undef = v := fun t v hl => by
    have := hf.2.2 t v hl; simp [this]
  unfold results
  rw [hrs, Sem.run_bind, Array.mapM_eq_mapM_toList, Sem.run_map, run_resList _ (fun x v hx => ?_) rs vs h]
  · simp only [Result.andThen_ok, Sem.run_pure]
    congr 1
    cases vs with
    | nil => rfl
    | cons v s => cases s <;> rfl
  · cases x with
    | tmp t => show (pure (a.tmps.getD t undef) : Sem Value).run P w = _; rw [hg t v hx]; rfl
    | cell b t =>
      obtain ⟨b', o, h3, h4⟩ := hx
      show (asAddr (a.tmps.getD b undef) >>= fun x => loadVar t x).run P w = _
      rw [hg b _ h3]
      simp only [ptr, asAddr, Sem.run_bind, Sem.run_pure, Result.andThen_ok, h4 w rfl]

theorem hc_of_hw {P : Program} {g : FuncId} {fn : Func} {c : Code} {N : Nat} {args : List Value} {rs : List ResultVar} {H : Heap} {R : Value → Heap → Prop}
    (hf : P.funcs[g]? = some fn) (hb : fn.body = some c) (hN : fn.ntmps = N) (hrs : fn.results = rs.toArray) (ha : Nat.ble args.length N = true)
    (h : HW P none (N, none) c (retQ P rs R) (argf 0 args) H) : HC P g args H R := by
  intro w hw
  have ha' : args.length ≤ N := Nat.le_of_ble_eq_true ha
  have hfs : FS (N, none) (argf 0 args) { tmps := args.toArray ++ Array.replicate (fn.ntmps - args.toArray.size) undef, defers := [] } H := by
    refine ⟨rfl, by simp [hN]; omega, fun t v hl => ?_⟩
    obtain ⟨_, h2⟩ := lk_argf _ _ _ _ hl
    rw [Nat.sub_zero] at h2
    have ht : t < args.length := by
      rcases Nat.lt_or_ge t args.length with h3 | h3
      · exact h3
      · simp [List.getElem?_eq_none h3] at h2
    show (args.toArray ++ _)[t]? = _
    rw [Array.getElem?_append_left (by simpa using ht)]
    simpa using h2
  refine calls_of_wp hf hb ((wpIn_wide (n := 0)).1 (wpIn_mono (h w _ w hfs hw (.refl _)) fun e a w' k => ?_))
  obtain ⟨k1, f', k2, k3⟩ := k
  cases e with
  | normal => obtain ⟨vs, k4, k5⟩ := k3; exact ⟨k2.1, _, run_results hrs k2 k4, _, rfl, k1, k5⟩
  | ret => obtain ⟨vs, k4, k5⟩ := k3; exact ⟨k2.1, _, run_results hrs k2 k4, _, rfl, k1, k5⟩
  | exit id => exact k3.elim
  | goto l => exact k3.elim
  | panic ch => exact k3.elim
  | outgrown => exact k3.elim

section
variable {P : Program} {N : Sz} {f : Frm} {H : Heap} {ty : TypeId} {g : FuncId}

theorem ret_i {rs : List ResultVar} {R : Value → Heap → Prop} (vs : List Value) (h : resAll P H f rs vs) (k : R (tup vs) H) : retQ P rs R .ret f H := ⟨vs, h, k⟩
theorem ret_n {rs : List ResultVar} {R : Value → Heap → Prop} (vs : List Value) (h : resAll P H f rs vs) (k : R (tup vs) H) : retQ P rs R .normal f H := ⟨vs, h, k⟩

def evs (f : Frm) : List Operand → List Value → Prop
  | [], [] => True
  | x :: r, v :: s => ev f x = some v ∧ evs f r s
  | _, _ => False

theorem FS.evs {a : Act} {H : Heap} (h : FS N f a H) : ∀ {l : List Operand} {vs : List Value}, evs f l vs → l.map a.eval = vs
  | [], [], _ => rfl
  | x :: r, v :: s, ⟨h1, h2⟩ => by rw [List.map_cons, h.ev h1, h.evs h2]
  | [], _ :: _, h => h.elim
  | _ :: _, [], h => h.elim

theorem h_callv {x : Operand} {l : List Operand} {vs cs fs : List Value} {tys : Array TypeId} {R : Value → Heap → Prop} (hc : ∀ args w, (callFunc g args).run P w = .ok (.enter g args) w)
    (hx : ev f x = some (.func (.func g) fs.toArray cs.toArray)) (hv : evs f l vs) (h : HC P g (fs ++ vs ++ cs) H R) : OpH P N (.call ⟨.value x, l.toArray, tys⟩) ty f H R := by
  intro a w hf hH
  simp only [opx, execOp, resolve, List.map_toArray, hf.evs hv, hf.ev hx, Deferred.ofValue, Sem.run_bind, Sem.run_pure, Result.andThen_ok, invoke, hc, hupon, List.append_toArray]
  exact h w hH

theorem h_call {l : List Operand} {vs : List Value} {tys : Array TypeId} {R : Value → Heap → Prop} (hc : ∀ args w, (callFunc g args).run P w = .ok (.enter g args) w) (hv : evs f l vs) (h : HC P g vs H R) :
    OpH P N (.call ⟨.value (.func g), l.toArray, tys⟩) ty f H R :=
  h_callv (fs := []) (cs := []) hc rfl hv (by simpa using h)

/-- a call that leaves the heap as it was -/
theorem v_callv {x : Operand} {l : List Operand} {vs cs fs : List Value} {tys : Array TypeId} {v : Value} (hc : ∀ args w, (callFunc g args).run P w = .ok (.enter g args) w)
    (hx : ev f x = some (.func (.func g) fs.toArray cs.toArray)) (hv : evs f l vs) (h : HC P g (fs ++ vs ++ cs) H (fun v' H' => v' = v ∧ H' = H)) : OpV P N (.call ⟨.value x, l.toArray, tys⟩) ty f H v := by
  intro a w hf hH
  simp only [opx, execOp, resolve, List.map_toArray, hf.evs hv, hf.ev hx, Deferred.ofValue, Sem.run_bind, Sem.run_pure, Result.andThen_ok, invoke, hc, Oper.quietUpon, List.append_toArray]
  exact ⟨trivial, (h w hH).mono fun e w' ⟨v', h1, h2, h3, h4⟩ => ⟨h3 ▸ h1, h4, h2⟩⟩
theorem v_call {l : List Operand} {vs : List Value} {tys : Array TypeId} {v : Value} (hc : ∀ args w, (callFunc g args).run P w = .ok (.enter g args) w) (hv : evs f l vs) (h : HC P g vs H (fun v' H' => v' = v ∧ H' = H)) :
    OpV P N (.call ⟨.value (.func g), l.toArray, tys⟩) ty f H v :=
  v_callv (fs := []) (cs := []) hc rfl hv (by simpa using h)
end
end Go.Proofs.Ytbaciogbhjcdoaa
