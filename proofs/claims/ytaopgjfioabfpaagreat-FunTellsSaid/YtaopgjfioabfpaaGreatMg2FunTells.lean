/- Several texts in one. No condition. -/
import Derived.Test.YtaopgjfioabfpaaGreatMg1FunTells
import Derived.Laws.Sem
set_option linter.unusedVariables false
set_option linter.unusedSimpArgs false
set_option maxRecDepth 20000
namespace Go.Proofs.YtaopgjfioabfpaaGreat
section
theorem blt_lt {d n : Nat} (h : Nat.blt d n = true) : d < n := Nat.le_of_ble_eq_true h
/-- an operation without its slot -/
def opx (op : Op) (ty : TypeId) : Oper := ⟨none, op, ty, "", #[], none⟩
theorem execOp_opx (ρ : Operand → Value) (d : Option Tmp) (op : Op) (ty : TypeId) (p : String) (a : Array Edge) (g : Option (Nat × Bool)) :
    execOp ρ ⟨d, op, ty, p, a, g⟩ = execOp ρ (opx op ty) := by
  cases op <;> rfl
/-- The operation yields v and leaves the heap as it was. -/
def OpV (P : Program) (N : Sz) (op : Op) (ty : TypeId) (f : Frm) (H : Heap) (v : Value) : Prop :=
  ∀ a w, FS N f a H → w.heap = H → Oper.quietUpon P (fun w' => w'.heap = H ∧ Env w w') w v ((execOp a.eval (opx op ty)).run P w)
def hupon (P : Program) (R : Value → World → Prop) : Result Next → Prop
  | .ok (.value v) w' => R v w'
  | .ok .skip w' => R undef w'
  | .ok (.enter f args) w' => Calls P f args w' (fun e w'' => ∃ v, e = .returned v ∧ R v w'')
  | _ => False
/-- The operation yields v with a heap H', of which R holds. -/
def OpH (P : Program) (N : Sz) (op : Op) (ty : TypeId) (f : Frm) (H : Heap) (R : Value → Heap → Prop) : Prop :=
  ∀ a w, FS N f a H → w.heap = H → hupon P (fun v w' => Env w w' ∧ R v w'.heap) ((execOp a.eval (opx op ty)).run P w)
section
variable {P : Program} {r : Option Nat} {N : Sz} {Q : Post} {f : Frm} {H : Heap}
theorem OpV.toH {op : Op} {ty : TypeId} {v : Value} (h : OpV P N op ty f H v) : OpH P N op ty f H (fun v' H' => v' = v ∧ H' = H) := by
  intro a w h1 h2
  have := h a w h1 h2
  generalize (execOp a.eval (opx op ty)).run P w = res at *
  cases res with
  | halt x w' => exact this
  | ok x w' =>
    cases x <;> simp only [Oper.quietUpon, hupon] at * <;> try exact this
    · obtain ⟨rfl, rfl⟩ := this; exact ⟨.refl _, rfl, h2⟩
    · obtain ⟨rfl, rfl⟩ := this; exact ⟨.refl _, rfl, h2⟩
    · obtain ⟨rfl, hc⟩ := this
      exact hc.mono fun e w'' ⟨he, hh, henv⟩ => ⟨v, he, henv, rfl, hh⟩
theorem OpV.val {op : Op} {ty : TypeId} {v v' : Value} (h : OpV P N op ty f H v) (e : v = v') : OpV P N op ty f H v' := e ▸ h
theorem OpH.mono {op : Op} {ty : TypeId} {R R' : Value → Heap → Prop} (h : OpH P N op ty f H R) (hr : ∀ v H', R v H' → R' v H') : OpH P N op ty f H R' := by
  intro a w h1 h2
  have := h a w h1 h2
  generalize (execOp a.eval (opx op ty)).run P w = res at *
  cases res with
  | halt x w' => exact this
  | ok x w' =>
    cases x <;> simp only [hupon] at * <;> try exact this
    · exact ⟨this.1, hr _ _ this.2⟩
    · exact ⟨this.1, hr _ _ this.2⟩
    · exact Calls.mono this fun e w'' ⟨v, he, h1, h2⟩ => ⟨v, he, h1, hr _ _ h2⟩
theorem OpH.notDefer {op : Op} {ty : TypeId} {R : Value → Heap → Prop} (h : OpH P N op ty f H R) {a : Act} {w : World} (h1 : FS N f a H) (h2 : w.heap = H) (c : Call) : op ≠ .defer c := by
  rintro rfl
  have := h a w h1 h2
  simp only [opx, execOp, Sem.run_bind] at this
  generalize (resolve a.eval c ty).run P w = res at *
  cases res with
  | halt x w' => exact this
  | ok x w' => exact this
/-- an operation in its place -/
theorem OpH.wpIn {d : Option Tmp} {op : Op} {ty : TypeId} {p : String} {af : Array Edge} {g : Option (Nat × Bool)} {R : Value → Heap → Prop} (h : OpH P N op ty f H R)
    {a : Act} {w w0 : World} (h1 : FS N f a H) (h2 : w.heap = H) (h3 : Env w0 w) {K : Act → World → Prop} {Q' : Exit → Act → World → Prop}
    (k : ∀ v w', Keep H w'.heap → Env w0 w' → R v w'.heap → K (a.put d v) w') : Oper.wpIn (Fr r) 0 P ⟨d, op, ty, p, af, g⟩ a w K Q' := by
  refine ⟨fun _ _ => trivial, ?_⟩
  rw [Oper.semAt_eq _ _ _ (h.notDefer h1 h2), execOp_opx]
  have := h a w h1 h2
  generalize (execOp a.eval (opx op ty)).run P w = res at *
  cases res with
  | halt x w' => exact this.elim
  | ok x w' =>
    cases x <;> simp only [hupon] at this <;> try exact this.elim
    · exact k _ _ (h2 ▸ this.1.keep) (h3.trans this.1) this.2
    · exact k _ _ (h2 ▸ this.1.keep) (h3.trans this.1) this.2
    · refine ⟨fun hh => Bool.noConfusion hh, ?_⟩
      have hc : CallsIn Fence.wide 0 P _ _ w' _ := callsIn_wide.2 this
      exact CallsIn.mono (F := Fr r) hc fun e w'' ⟨v, he, h4, h5⟩ => by subst he; exact k _ _ (h2 ▸ h4.keep) (h3.trans h4) h5
/-- The operation asks for a round of a range over a function, which yields v with a heap H', of which R holds. -/
def OpY (P : Program) (N : Sz) (op : Op) (ty : TypeId) (f : Frm) (H : Heap) (R : Value → Heap → Prop) : Prop :=
  (∀ c, op ≠ .defer c) ∧ ∀ a w, FS N f a H → w.heap = H → ∃ (l : Nat) (fn : FuncId) (tmps : Array Value) (assign body : Code) (w' : World), (execOp a.eval (opx op ty)).run P w = .ok (.round l fn tmps assign body) w' ∧
    RoundIn Fence.wide 0 P l fn tmps assign body w' (fun e w'' => ∃ v, e = .returned v ∧ Env w w'' ∧ R v w''.heap)
theorem OpY.wpIn {d : Option Tmp} {op : Op} {ty : TypeId} {p : String} {af : Array Edge} {g : Option (Nat × Bool)} {R : Value → Heap → Prop} (h : OpY P N op ty f H R)
    {a : Act} {w w0 : World} (h1 : FS N f a H) (h2 : w.heap = H) (h3 : Env w0 w) {K : Act → World → Prop} {Q' : Exit → Act → World → Prop}
    (k : ∀ v w', Keep H w'.heap → Env w0 w' → R v w'.heap → K (a.put d v) w') : Oper.wpIn (Fr r) 0 P ⟨d, op, ty, p, af, g⟩ a w K Q' := by
  refine ⟨fun _ _ => trivial, ?_⟩
  rw [Oper.semAt_eq _ _ _ (h.1), execOp_opx]
  obtain ⟨l, fn, tmps, assign, body, w', hrun, hc⟩ := h.2 a w h1 h2
  rw [hrun]
  refine ⟨fun hh => Bool.noConfusion hh, ?_⟩
  exact RoundIn.mono (F := Fr r) hc fun e w'' ⟨v, he, h4, h5⟩ => by subst he; exact k _ _ (h2 ▸ h4.keep) (h3.trans h4) h5
/-- A region's operations, one behind the other. -/
def HL (P : Program) (r : Option Nat) (N : Sz) (l0 l : List Oper) (Q : Post) (f : Frm) (H : Heap) : Prop :=
  ∀ w0 a w, FS N f a H → w.heap = H → Env w0 w → wpListIn (Fr r) 0 P l0.toArray (LQ N w0 Q) l a w
theorem hw_region {id : Nat} {l : List Oper} (h : HL P r N l l Q f H) : HW P r N (.region id l.toArray false) Q f H :=
  fun w0 a w h1 h2 h3 => wpIn_region_lit (h w0 a w h1 h2 h3)
theorem hl_nil {l0 : List Oper} (h : Q .normal f H) : HL P r N l0 [] Q f H := fun _ _ _ h1 h2 h3 => ⟨h3, f, h2 ▸ h1, h2 ▸ h⟩
variable {l0 rest : List Oper} {d : Nat} {op : Op} {ty : TypeId} {p : String} {af : Array Edge} {j : Nat} {want : Bool}
theorem hl_v {v : Value} (h : OpV P N op ty f H v) (hd : Nat.blt d N.1 = true) (k : HL P r N l0 rest Q ((d, v) :: f) H) :
    HL P r N l0 (⟨some d, op, ty, p, af, none⟩ :: rest) Q f H := by
  intro w0 a w h1 h2 h3
  refine wpListIn_plain rfl fun K hK => h.toH.wpIn h1 h2 h3 fun v' w' hk h4 h5 => hK _ _ ?_
  obtain ⟨rfl, h5⟩ := h5
  exact k w0 _ _ (h1.put (blt_lt hd) _) h5 h4
theorem hl_h {R : Value → Heap → Prop} (h : OpH P N op ty f H R) (hd : Nat.blt d N.1 = true) (k : ∀ v H', R v H' → HL P r N l0 rest Q ((d, v) :: f) H') :
    HL P r N l0 (⟨some d, op, ty, p, af, none⟩ :: rest) Q f H := by
  intro w0 a w h1 h2 h3
  refine wpListIn_plain rfl fun K hK => h.wpIn h1 h2 h3 fun v' w' hk h4 h5 => hK _ _ ?_
  exact k v' w'.heap h5 w0 _ _ ((h1.put (blt_lt hd) _).to hk) rfl h4
/-- an operation that yields nothing (a store) -/
theorem hl_s {R : Value → Heap → Prop} (h : OpH P N op ty f H R) (k : ∀ v H', R v H' → HL P r N l0 rest Q f H') :
    HL P r N l0 (⟨none, op, ty, p, af, none⟩ :: rest) Q f H := by
  intro w0 a w h1 h2 h3
  refine wpListIn_plain rfl fun K hK => h.wpIn h1 h2 h3 fun v' w' hk h4 h5 => hK _ _ ?_
  exact k v' w'.heap h5 w0 _ _ ((h1.put_none _).to hk) rfl h4
/-- does a guard's value say go? -/
def gb (v : Value) (want : Bool) : Bool := match v with | .bool b => b == want | _ => false
def gv (c : Bool) (v : Value) : Value := match c with | true => v | false => undef
def gslot (l : List Oper) (j : Nat) : Option Nat := (l[j]?).bind (·.dst)
theorem gv_ok {o : Option Value} {c : Bool} {v : Value} (h : o = some (gv c v)) (hc : c = true) : o = some v := by subst hc; exact h
theorem gb_bool {b want : Bool} (h : gb (.bool b) want = true) : b = want := by simpa [gb] using h
theorem gb_true {b : Bool} (h : gb (.bool b) true = true) : b = true := gb_bool h
theorem wanted_of {a : Act} {vg : Value} {dj : Nat} {d : Option Tmp} (h1 : FS N f a H) (hj : gslot l0 j = some dj) (hv : lk f dj = some vg) :
    Region.wanted ⟨d, op, ty, p, af, some (j, want)⟩ (yielded l0.toArray a.tmps) = gb vg want := by
  have h2 := h1.2.2 _ _ hv
  simp only [gslot] at hj
  simp only [Region.wanted, yielded, List.getElem?_toArray, hj, Option.bind_some, h2]
  cases vg <;> simp [gb, Bool.beq_eq_decide_eq]
theorem hl_g {vg v : Value} {dj : Nat} (hj : gslot l0 j = some dj) (hv : lk f dj = some vg) (h : gb vg want = true → OpV P N op ty f H v) (hd : Nat.blt d N.1 = true)
    (k : HL P r N l0 rest Q ((d, gv (gb vg want) v) :: f) H) : HL P r N l0 (⟨some d, op, ty, p, af, some (j, want)⟩ :: rest) Q f H := by
  intro w0 a w h1 h2 h3
  refine wpListIn_step fun K hK => ?_
  rw [wanted_of h1 hj hv]
  have hd' : d < N.1 := blt_lt hd
  cases hc : gb vg want
  · rw [if_neg (by simp)]
    rw [hc] at k
    exact ⟨fun _ _ => trivial, hK _ _ (k w0 _ _ (h1.put hd' _) h2 h3)⟩
  · rw [if_pos rfl]
    rw [hc] at k
    refine (h hc).toH.wpIn h1 h2 h3 fun v' w' hk h4 h5 => hK _ _ ?_
    obtain ⟨rfl, h5⟩ := h5
    exact k w0 _ _ (h1.put hd' _) h5 h4
/-- a guard that is known to say go -/
theorem hl_gh {vg : Value} {dj : Nat} {R : Value → Heap → Prop} (hj : gslot l0 j = some dj) (hv : lk f dj = some vg) (hg : gb vg want = true) (h : OpH P N op ty f H R) (hd : Nat.blt d N.1 = true)
    (k : ∀ v H', R v H' → HL P r N l0 rest Q ((d, v) :: f) H') : HL P r N l0 (⟨some d, op, ty, p, af, some (j, want)⟩ :: rest) Q f H := by
  intro w0 a w h1 h2 h3
  refine wpListIn_step fun K hK => ?_
  rw [wanted_of h1 hj hv, hg, if_pos rfl]
  have hd' : d < N.1 := blt_lt hd
  refine h.wpIn h1 h2 h3 fun v' w' hk h4 h5 => hK _ _ ?_
  exact k v' w'.heap h5 w0 _ _ ((h1.put hd' _).to hk) rfl h4
theorem hl_gy {vg : Value} {dj : Nat} {R : Value → Heap → Prop} (hj : gslot l0 j = some dj) (hv : lk f dj = some vg) (hg : gb vg want = true) (h : OpY P N op ty f H R) (hd : Nat.blt d N.1 = true)
    (k : ∀ v H', R v H' → HL P r N l0 rest Q ((d, v) :: f) H') : HL P r N l0 (⟨some d, op, ty, p, af, some (j, want)⟩ :: rest) Q f H := by
  intro w0 a w h1 h2 h3
  refine wpListIn_step fun K hK => ?_
  rw [wanted_of h1 hj hv, hg, if_pos rfl]
  have hd' : d < N.1 := blt_lt hd
  refine h.wpIn h1 h2 h3 fun v' w' hk h4 h5 => hK _ _ ?_
  exact k v' w'.heap h5 w0 _ _ ((h1.put hd' _).to hk) rfl h4
/-- a guard that is known to say no -/
theorem hl_gf {vg : Value} {dj : Nat} (hj : gslot l0 j = some dj) (hv : lk f dj = some vg) (hg : gb vg want = false) (hd : Nat.blt d N.1 = true)
    (k : HL P r N l0 rest Q ((d, undef) :: f) H) : HL P r N l0 (⟨some d, op, ty, p, af, some (j, want)⟩ :: rest) Q f H := by
  intro w0 a w h1 h2 h3
  refine wpListIn_step fun K hK => ?_
  rw [wanted_of h1 hj hv, hg, if_neg (by simp)]
  have hd' : d < N.1 := blt_lt hd
  exact ⟨fun _ _ => trivial, hK _ _ (k w0 _ _ (h1.put hd' _) h2 h3)⟩
/-! ## regions that draw their order, and only read -/
def HQ (P : Program) (N : Sz) (l0 l : List Oper) (Q : Frm → Prop) (f : Frm) (H : Heap) : Prop :=
  ∀ w a, w.heap = H → FS N f a H → wpQuiet P l0.toArray (fun w' => w'.heap = H ∧ Env w w') (fun a' => ∃ f', FS N f' a' H ∧ Q f') l a
theorem hw_quiet {id : Nat} {l : List Oper} (hm : P.follows .mixedOrders = true) (hB : Region.lexB .any l.toArray = true) (h : HQ P N l l (fun f' => Q .normal f' H) f H) :
    HW P none N (.region id l.toArray true) Q f H := by
  intro w0 a w h1 h2 h3
  refine wpIn_wide.2 ?_
  refine wp_region_quiet (C := fun w' => w'.heap = H ∧ Env w w') hm hB ⟨h2, rfl, rfl, rfl, .refl _, Nat.le_succ _⟩ ?_
  have := h w a h2 h1
  have hmono : ∀ (ops : Array Oper) (l : List Oper) (a : Act), wpQuiet P ops (fun w' => w'.heap = H ∧ Env w w') (fun a' => ∃ f', FS N f' a' H ∧ Q .normal f' H) l a →
      wpQuiet P ops (fun w' => w'.heap = H ∧ Env w w') (fun a' => ∀ w', (w'.heap = H ∧ Env w w') → LQ N w0 Q .normal a' w') l a := by
    intro ops l
    induction l with
    | nil =>
      intro a ⟨f', h4, h5⟩ w' h6
      exact ⟨h3.trans h6.2, f', h6.1 ▸ h4, h6.1 ▸ h5⟩
    | cons o l ih =>
      intro a hh
      simp only [wpQuiet] at hh ⊢
      split at hh
      · rename_i hw; rw [if_pos hw]; exact Oper.quiet_mono ih hh
      · rename_i hw; rw [if_neg hw]; exact ih _ hh
  exact hmono _ _ _ this
theorem hq_nil {Q : Frm → Prop} (h : Q f) : HQ P N l0 [] Q f H := fun _ _ _ h1 => ⟨f, h1, h⟩
theorem OpV.quiet {v : Value} {d : Option Tmp} {g : Option (Nat × Bool)} (h : OpV P N op ty f H v) {w : World} {a : Act} (h1 : FS N f a H) :
    ∀ w', (w'.heap = H ∧ Env w w') → Oper.quietAt P ⟨d, op, ty, p, af, g⟩ a (fun w' => w'.heap = H ∧ Env w w') w' v := by
  intro w' ⟨h2, h3⟩
  have := h a w' h1 h2
  unfold Oper.quietAt
  rw [execOp_opx]
  generalize (execOp a.eval (opx op ty)).run P w' = res at *
  cases res with
  | halt x w' => exact this
  | ok x w' =>
    cases x <;> simp only [Oper.quietUpon] at * <;> try exact this
    exact ⟨this.1, this.2.mono fun e w'' ⟨he, hh, henv⟩ => ⟨he, hh, h3.trans henv⟩⟩
theorem hq_v {Q : Frm → Prop} {v : Value} (h : OpV P N op ty f H v) (hd : Nat.blt d N.1 = true) (k : HQ P N l0 rest Q ((d, v) :: f) H) :
    HQ P N l0 (⟨some d, op, ty, p, af, none⟩ :: rest) Q f H := by
  intro w a h2 h1
  refine wpQuiet_step fun K hK => ?_
  simp only [Region.wanted, if_true]
  exact ⟨v, h.quiet h1, hK _ (k w _ h2 (h1.put (blt_lt hd) _))⟩
theorem hq_g {Q : Frm → Prop} {vg v : Value} {dj : Nat} (hj : gslot l0 j = some dj) (hv : lk f dj = some vg) (h : gb vg want = true → OpV P N op ty f H v) (hd : Nat.blt d N.1 = true)
    (k : HQ P N l0 rest Q ((d, gv (gb vg want) v) :: f) H) : HQ P N l0 (⟨some d, op, ty, p, af, some (j, want)⟩ :: rest) Q f H := by
  intro w a h2 h1
  refine wpQuiet_step fun K hK => ?_
  rw [wanted_of h1 hj hv]
  have hd' : d < N.1 := blt_lt hd
  cases hc : gb vg want
  · rw [if_neg (by simp)]
    rw [hc] at k
    exact hK _ (k w _ h2 (h1.put hd' _))
  · rw [if_pos rfl]
    rw [hc] at k
    exact ⟨v, (h hc).quiet h1, hK _ (k w _ h2 (h1.put hd' _))⟩
end
end
end Go.Proofs.YtaopgjfioabfpaaGreat
