/- Several texts in one. No condition. -/
import Derived.TacticsIn
import Derived.Deep.Quiet
import Derived.OrdersHeld
import Derived.KernelRfl
set_option linter.unusedVariables false
set_option linter.unusedSimpArgs false
set_option maxRecDepth 20000
namespace Go.Proofs.YtaopgjfioabfpaaGreat
section
abbrev Heap := Array Obj
abbrev Frm := List (Nat × Value)
/-- what a slot holds -/
def lk : Frm → Nat → Option Value
  | [], _ => none
  | (s, v) :: r, t => match Nat.beq t s with
    | true => some v
    | false => lk r t
theorem nbeq_ne {a b : Nat} (h : a ≠ b) : Nat.beq a b = false := by
  cases e : Nat.beq a b
  · rfl
  · exact absurd (Nat.eq_of_beq_eq_true e) h
theorem lk_cons (s : Nat) (v : Value) (r : Frm) (t : Nat) : lk ((s, v) :: r) t = if t = s then some v else lk r t := by
  by_cases h : t = s
  · subst h; simp [lk]
  · have : Nat.beq t s = false := nbeq_ne h
    simp [lk, this, h]
def AllIn (f : Frm) : Frm → Prop
  | [] => True
  | (t, v) :: r => lk f t = some v ∧ AllIn f r
theorem AllIn.get {f : Frm} : ∀ {g : Frm}, AllIn f g → ∀ {t v}, lk g t = some v → lk f t = some v
  | [], _, t, v, h => by simp [lk] at h
  | (s, u) :: r, ⟨h1, h2⟩, t, v, h => by
    rw [lk_cons] at h
    split at h
    · rename_i e; subst e; cases h; exact h1
    · exact h2.get h
/-- how many slots · may marks of ranges over functions stand among the deferred calls (blocks from where) -/
abbrev Sz := Nat × Option Nat
/-- a block for deferred calls without any, and the record of a round under way, stay -/
def kept : Obj → Prop
  | .deferred (some []) => True
  | .loop r => r.state = .busy
  | _ => False
def Keep (H H' : Heap) : Prop := ∀ (D : Nat) (o : Obj), H[D]? = some o → kept o → H'[D]? = some o
theorem Keep.refl (H : Heap) : Keep H H := fun _ _ h _ => h
theorem Keep.trans {a b c : Heap} (h : Keep a b) (k : Keep b c) : Keep a c := fun D o hd ho => k D o (h D o hd ho) ho
def mark (D : Nat) : Deferred := { target := .collected D, args := #[] }
def Mk (m : Option Nat) (a : Act) (H : Heap) : Prop := match m with
  | none => a.defers = []
  | some B => a.defers.Nodup ∧ ∀ d ∈ a.defers, ∃ D, d = mark D ∧ B ≤ D ∧ H[D]? = some (.deferred (some []))
theorem Mk.to {m : Option Nat} {a : Act} {H H' : Heap} (h : Mk m a H) (k : Keep H H') : Mk m a H' := by
  cases m with
  | none => exact h
  | some B => exact ⟨h.1, fun d hd => let ⟨D, h1, h2, h3⟩ := h.2 d hd; ⟨D, h1, h2, k D _ h3 trivial⟩⟩
theorem Mk.put {m : Option Nat} {a : Act} {H : Heap} (h : Mk m a H) (d : Option Nat) (v : Value) : Mk m (a.put d v) H := by
  cases m <;> cases d <;> exact h
def FS (N : Sz) (f : Frm) (a : Act) (H : Heap) : Prop := Mk N.2 a H ∧ a.tmps.size = N.1 ∧ ∀ t v, lk f t = some v → a.tmps[t]? = some v
theorem FS.to {N : Sz} {f : Frm} {a : Act} {H H' : Heap} (h : FS N f a H) (k : Keep H H') : FS N f a H' := ⟨h.1.to k, h.2⟩
theorem FS.sub {N : Sz} {f g : Frm} {a : Act} {H : Heap} (h : FS N f a H) (hg : AllIn f g) : FS N g a H := ⟨h.1, h.2.1, fun _ _ hl => h.2.2 _ _ (hg.get hl)⟩
theorem FS.put {N : Sz} {f : Frm} {a : Act} {H : Heap} (h : FS N f a H) {d : Nat} (hd : d < N.1) (v : Value) : FS N ((d, v) :: f) (a.put (some d) v) H := by
  obtain ⟨h1, h2, h3⟩ := h
  refine ⟨h1.put _ _, by simp [Act.put, h2], fun t u hl => ?_⟩
  rw [lk_cons] at hl
  simp only [Act.put, Array.getElem?_setIfInBounds]
  split at hl
  · rename_i e; subst e; cases hl; simp [h2, hd]
  · rename_i e; rw [if_neg (fun e' => e e'.symm)]; exact h3 _ _ hl
theorem FS.put_none {N : Sz} {f : Frm} {a : Act} {H : Heap} (h : FS N f a H) (v : Value) : FS N f (a.put none v) H := h
/-- an operand's value -/
def ev (f : Frm) : Operand → Option Value
  | .tmp t => lk f t
  | .const v => some v
  | .global g => some (.pointer (some ⟨g, 0, none⟩))
  | .func g => some (.func (.func g) #[] #[])
theorem FS.ev {N : Sz} {f : Frm} {a : Act} {H : Heap} (h : FS N f a H) {x : Operand} {v : Value} (hx : ev f x = some v) : a.eval x = v := by
  cases x with
  | tmp t => have := h.2.2 _ _ hx; simp [Act.eval, this]
  | const u => exact Option.some.inj hx
  | global g => simpa [Go.Proofs.YtaopgjfioabfpaaGreat.ev, Act.eval] using hx
  | func g => simpa [Go.Proofs.YtaopgjfioabfpaaGreat.ev, Act.eval] using hx
structure Env (w w' : World) : Prop where
  tape : w'.tape = w.tape
  os : w'.os = w.os
  output : w'.output = w.output
  keep : Keep w.heap w'.heap
  drawn : w.drawn ≤ w'.drawn
theorem Env.refl (w : World) : Env w w := ⟨rfl, rfl, rfl, .refl _, Nat.le_refl _⟩
theorem Env.trans {a b c : World} (h : Env a b) (k : Env b c) : Env a c := ⟨k.1.trans h.1, k.2.trans h.2, k.3.trans h.3, h.4.trans k.4, Nat.le_trans h.5 k.5⟩
abbrev Fr (r : Option Nat) : Fence := { fn := fun _ => True, depth := none, alive := false, round := r }
abbrev Post := Exit → Frm → Heap → Prop
def LQ (N : Sz) (w0 : World) (Q : Post) : Exit → Act → World → Prop := fun e a w => Env w0 w ∧ ∃ f, FS N f a w.heap ∧ Q e f w.heap
theorem LQ.mono {N : Sz} {w0 : World} {Q Q' : Post} (h : ∀ e f H, Q e f H → Q' e f H) {e : Exit} {a : Act} {w : World} (k : LQ N w0 Q e a w) : LQ N w0 Q' e a w :=
  let ⟨k1, f, k2, k3⟩ := k; ⟨k1, f, k2, h _ _ _ k3⟩
def HW (P : Program) (r : Option Nat) (N : Sz) (c : Code) (Q : Post) (f : Frm) (H : Heap) : Prop :=
  ∀ w0 a w, FS N f a H → w.heap = H → Env w0 w → c.wpIn (Fr r) 0 P (LQ N w0 Q) a w
def thenQ (next : Frm → Heap → Prop) (Q : Post) : Post
  | .normal, f, H => next f H
  | e, f, H => Q e f H
def blockQ (id : Nat) (Q : Post) : Post
  | .exit id', f, H => match Nat.beq id' id with
    | true => Q .normal f H
    | false => Q (.exit id') f H
  | e, f, H => Q e f H
section
variable {P : Program} {r : Option Nat} {N : Sz} {Q : Post} {f : Frm} {H : Heap}
theorem hw_mono {c : Code} {Q' : Post} (h : HW P r N c Q f H) (hq : ∀ e f H, Q e f H → Q' e f H) : HW P r N c Q' f H :=
  fun w0 a w h1 h2 h3 => wpIn_mono (h w0 a w h1 h2 h3) fun _ _ _ k => k.mono hq
theorem hw_sub {c : Code} (g : Frm) (hg : AllIn f g) (k : HW P r N c Q g H) : HW P r N c Q f H :=
  fun w0 a w h1 h2 h3 => k w0 a w (h1.sub hg) h2 h3
theorem hw_seq {x y : Code} (h : HW P r N x (thenQ (HW P r N y Q) Q) f H) : HW P r N (.seq x y) Q f H :=
  fun w0 a w h1 h2 h3 => wpIn_seq (wpIn_mono (h w0 a w h1 h2 h3) fun e a w k => by
    obtain ⟨k1, f, k2, k3⟩ := k
    cases e with
    | normal => exact k3 w0 a w k2 rfl k1
    | exit id => exact ⟨k1, f, k2, k3⟩
    | goto l => exact ⟨k1, f, k2, k3⟩
    | ret => exact ⟨k1, f, k2, k3⟩
    | panic c => exact ⟨k1, f, k2, k3⟩
    | outgrown => exact ⟨k1, f, k2, k3⟩)
theorem hw_cond {x y : Code} {c : Operand} {b : Bool} (hc : ev f c = some (.bool b)) (ht : b = true → HW P r N x Q f H) (hf : b = false → HW P r N y Q f H) :
    HW P r N (.cond c x y) Q f H := fun w0 a w h1 h2 h3 => wpIn_cond (h1.ev hc) (by
      cases b
      · exact hf rfl w0 a w h1 h2 h3
      · exact ht rfl w0 a w h1 h2 h3)
theorem hw_cond_t {x y : Code} {c : Operand} (hc : ev f c = some (.bool true)) (ht : HW P r N x Q f H) : HW P r N (.cond c x y) Q f H :=
  hw_cond hc (fun _ => ht) (fun h => by cases h)
theorem hw_cond_f {x y : Code} {c : Operand} (hc : ev f c = some (.bool false)) (hf : HW P r N y Q f H) : HW P r N (.cond c x y) Q f H :=
  hw_cond hc (fun h => by cases h) (fun _ => hf)
theorem hw_block {id : Nat} {c : Code} (h : HW P r N c (blockQ id Q) f H) : HW P r N (.block id c) Q f H :=
  fun w0 a w h1 h2 h3 => wpIn_block (wpIn_mono (h w0 a w h1 h2 h3) fun e a w k => by
    obtain ⟨k1, f, k2, k3⟩ := k
    cases e with
    | normal => exact ⟨k1, f, k2, k3⟩
    | exit id' =>
      by_cases e : id' = id
      · subst e
        simp only [Exit.inBlock, if_true]
        simp only [blockQ, Nat.beq_refl] at k3
        exact ⟨k1, f, k2, k3⟩
      · have hb : Nat.beq id' id = false := nbeq_ne e
        simp only [Exit.inBlock, if_neg e]
        simp only [blockQ, hb] at k3
        exact ⟨k1, f, k2, k3⟩
    | goto l => exact ⟨k1, f, k2, k3⟩
    | ret => exact ⟨k1, f, k2, k3⟩
    | panic c => exact ⟨k1, f, k2, k3⟩
    | outgrown => exact ⟨k1, f, k2, k3⟩)
theorem hw_exit {id : Nat} (h : Q (.exit id) f H) : HW P r N (.exit id) Q f H := fun _ _ _ h1 h2 h3 => wpIn_exit ⟨h3, f, h2 ▸ h1, h2 ▸ h⟩
theorem hw_ret (h : Q .ret f H) : HW P r N .ret Q f H := fun _ _ _ h1 h2 h3 => wpIn_ret ⟨h3, f, h2 ▸ h1, h2 ▸ h⟩
theorem hw_skip (h : Q .normal f H) : HW P r N .skip Q f H := fun _ _ _ h1 h2 h3 => wpIn_skip ⟨h3, f, h2 ▸ h1, h2 ▸ h⟩
/-- A loop: x stands for what the rounds turn, 'pre x' are the slots that they turn, 'fix' the others. -/
theorem hw_loop {c : Code} {α : Type} (fix : Frm) (pre : α → Frm) (I : α → Heap → Prop) (μ : α → Nat) (x0 : α) (hf : AllIn f (pre x0 ++ fix)) (hI : I x0 H)
    (round : ∀ x H, I x H → HW P r N c (thenQ (fun f' H' => ∃ x', AllIn f' (pre x' ++ fix) ∧ I x' H' ∧ μ x' < μ x) Q) (pre x ++ fix) H) :
    HW P r N (.loop c) Q f H := by
  intro w0 a w h1 h2 h3 b k cs hro hb hr
  have key : ∀ j x a w, μ x = j → I x w.heap → FS N (pre x ++ fix) a w.heap → Env w0 w →
      ∃ e a' w', LQ N w0 Q e a' w' ∧ ArrivesIn (Machine.fenced P (Fr r)) P (lone (b.atR a (.code c :: .inLoop c :: k)) cs w) b k cs e a' w' := by
    intro j
    induction j using Nat.strongRecOn with
    | _ j ih =>
      intro x a w hn hI hfs henv
      obtain ⟨e, a₁, w₁, ⟨q1, f1, q2, q3⟩, harr⟩ := round x w.heap hI w0 a w hfs rfl henv b (.inLoop c :: k) cs hro hb hr
      cases e with
      | normal =>
        obtain ⟨x', hx1, hx2, hlt⟩ := q3
        obtain ⟨e₂, a₂, w₂, hq₂, harr₂⟩ := ih (μ x') (hn ▸ hlt) x' a₁ w₁ rfl hx2 (q2.sub hx1) q1
        exact ⟨e₂, a₂, w₂, hq₂, .of_steps (StepsIn.trans harr (.one (fenced_calm hb hr rfl) stepR_inLoop)) harr₂⟩
      | exit id => exact ⟨_, a₁, w₁, ⟨q1, f1, q2, q3⟩, .pass (x := .inLoop c) rfl (fun _ _ => .inl (by simp)) harr⟩
      | goto l => exact ⟨_, a₁, w₁, ⟨q1, f1, q2, q3⟩, .pass (x := .inLoop c) rfl (fun _ _ => .inl (by simp)) harr⟩
      | ret => exact ⟨_, a₁, w₁, ⟨q1, f1, q2, q3⟩, .pass (x := .inLoop c) rfl (fun _ _ => .inl (by simp)) harr⟩
      | panic ch => exact ⟨_, a₁, w₁, ⟨q1, f1, q2, q3⟩, .pass (x := .inLoop c) rfl (fun _ _ => .inl (by simp)) harr⟩
      | outgrown => exact ⟨_, a₁, w₁, ⟨q1, f1, q2, q3⟩, .pass (x := .inLoop c) rfl (fun _ _ => .inl (by simp)) harr⟩
  obtain ⟨e, a', w', hq, harr⟩ := key _ x0 a w rfl (h2 ▸ hI) (by rw [h2]; exact h1.sub hf) h3
  exact ⟨e, a', w', hq, .of_steps (.one (fenced_calm hb hr rfl) stepR_loop) harr⟩
theorem blockQ_hit {id : Nat} (h : Q .normal f H) : blockQ id Q (.exit id) f H := by simpa [blockQ] using h
end
end
end Go.Proofs.YtaopgjfioabfpaaGreat
