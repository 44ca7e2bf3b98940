/- Several texts in one. No condition. -/
import Derived.Test.YtaopgjfioabfpaaGreatMg4FunTells
import Derived.Tactics
set_option linter.unusedVariables false
set_option linter.unusedSimpArgs false
set_option maxRecDepth 20000
namespace Go.Proofs.YtaopgjfioabfpaaGreat
section
/-- A contract: the call returns v with a heap H', of which R holds. -/
def HC (P : Program) (g : FuncId) (args : List Value) (H : Heap) (R : Value → Heap → Prop) : Prop :=
  ∀ w, w.heap = H → Calls P g args.toArray w fun e w' => ∃ v, e = .returned v ∧ Env w w' ∧ R v w'.heap
theorem HC.mono {P : Program} {g : FuncId} {args : List Value} {H : Heap} {R R' : Value → Heap → Prop} (h : HC P g args H R) (hr : ∀ v H', R v H' → R' v H') : HC P g args H R' :=
  fun w hw => (h w hw).mono fun _ _ ⟨v, h1, h2, h3⟩ => ⟨v, h1, h2, hr _ _ h3⟩
def argf : Nat → List Value → Frm
  | _, [] => []
  | k, v :: r => (k, v) :: argf (k + 1) r
theorem lk_argf : ∀ (l : List Value) (k t : Nat) (v : Value), lk (argf k l) t = some v → k ≤ t ∧ l[t - k]? = some v
  | [], k, t, v, h => by simp [argf, lk] at h
  | u :: r, k, t, v, h => by
    simp only [argf, lk_cons] at h
    split at h
    · rename_i e; subst e; cases h; simp
    · rename_i e
      obtain ⟨h1, h2⟩ := lk_argf r (k + 1) t v h
      refine ⟨by omega, ?_⟩
      rw [show t - k = (t - (k + 1)) + 1 by omega, List.getElem?_cons_succ]; exact h2
/-- what a result's variable holds -/
def resV (P : Program) (H : Heap) (f : Frm) : ResultVar → Value → Prop
  | .tmp t, v => lk f t = some v
  | .cell a t, v => ∃ b o, lk f a = some (ptr b o) ∧ ∀ w, w.heap = H → (loadVar t ⟨b, o, none⟩).run P w = .ok v w
def resAll (P : Program) (H : Heap) (f : Frm) : List ResultVar → List Value → Prop
  | [], [] => True
  | x :: r, v :: s => resV P H f x v ∧ resAll P H f r s
  | _, _ => False
def tup : List Value → Value
  | [v] => v
  | l => .tuple l.toArray
def retQ (P : Program) (rs : List ResultVar) (R : Value → Heap → Prop) : Post
  | .ret, f, H => ∃ vs, resAll P H f rs vs ∧ R (tup vs) H
  | .normal, f, H => ∃ vs, resAll P H f rs vs ∧ R (tup vs) H
  | _, _, _ => False
theorem run_resList {P : Program} {f : Frm} {w : World} (g : ResultVar → Sem Value) (hg : ∀ x v, resV P w.heap f x v → (g x).run P w = .ok v w) :
    ∀ (rs : List ResultVar) (vs : List Value), resAll P w.heap f rs vs → (rs.mapM g).run P w = .ok vs w
  | [], [], _ => rfl
  | [], _ :: _, h => h.elim
  | _ :: _, [], h => h.elim
  | x :: r, v :: s, ⟨h1, h2⟩ => by
    simp only [List.mapM_cons, Sem.run_bind, run_resList g hg r s h2, hg x v h1, Result.andThen_ok, Sem.run_pure]
theorem run_results {P : Program} {N : Sz} {fn : Func} {rs : List ResultVar} {f : Frm} {a : Act} {w : World} {vs : List Value} (hrs : fn.results = rs.toArray) {H : Heap} (hf : FS N f a H) (h : resAll P w.heap f rs vs) :
    (results fn a.tmps).run P w = .ok (tup vs) w := by
  have hg : ∀ (t : Nat) (v : Value), lk f t = some v → a.tmps.getD t undef = v := fun t v hl => by
    have := hf.2.2 t v hl; simp [this]
  unfold results
  rw [hrs, Sem.run_bind, Array.mapM_eq_mapM_toList, Sem.run_map, run_resList _ (fun x v hx => ?_) rs vs h]
  · simp only [Result.andThen_ok, Sem.run_pure]
    congr 1
    cases vs with
    | nil => rfl
    | cons v s => cases s <;> rfl
  · cases x with
    | tmp t => show (pure (a.tmps.getD t undef) : Sem Value).run P w = _; rw [hg t v hx]; rfl
    | cell b t =>
      obtain ⟨b', o, h3, h4⟩ := hx
      show (asAddr (a.tmps.getD b undef) >>= fun x => loadVar t x).run P w = _
      rw [hg b _ h3]
      simp only [ptr, asAddr, Sem.run_bind, Sem.run_pure, Result.andThen_ok, h4 w rfl]
theorem hc_of_hw {P : Program} {g : FuncId} {fn : Func} {c : Code} {N : Nat} {args : List Value} {rs : List ResultVar} {H : Heap} {R : Value → Heap → Prop}
    (hf : P.funcs[g]? = some fn) (hb : fn.body = some c) (hN : fn.ntmps = N) (hrs : fn.results = rs.toArray) (ha : Nat.ble args.length N = true)
    (h : HW P none (N, none) c (retQ P rs R) (argf 0 args) H) : HC P g args H R := by
  intro w hw
  have ha' : args.length ≤ N := Nat.le_of_ble_eq_true ha
  have hfs : FS (N, none) (argf 0 args) { tmps := args.toArray ++ Array.replicate (fn.ntmps - args.toArray.size) undef, defers := [] } H := by
    refine ⟨rfl, by simp [hN]; omega, fun t v hl => ?_⟩
    obtain ⟨_, h2⟩ := lk_argf _ _ _ _ hl
    rw [Nat.sub_zero] at h2
    have ht : t < args.length := by
      rcases Nat.lt_or_ge t args.length with h3 | h3
      · exact h3
      · simp [List.getElem?_eq_none h3] at h2
    show (args.toArray ++ _)[t]? = _
    rw [Array.getElem?_append_left (by simpa using ht)]
    simpa using h2
  refine calls_of_wp hf hb ((wpIn_wide (n := 0)).1 (wpIn_mono (h w _ w hfs hw (.refl _)) fun e a w' k => ?_))
  obtain ⟨k1, f', k2, k3⟩ := k
  cases e with
  | normal => obtain ⟨vs, k4, k5⟩ := k3; exact ⟨k2.1, _, run_results hrs k2 k4, _, rfl, k1, k5⟩
  | ret => obtain ⟨vs, k4, k5⟩ := k3; exact ⟨k2.1, _, run_results hrs k2 k4, _, rfl, k1, k5⟩
  | exit id => exact k3.elim
  | goto l => exact k3.elim
  | panic ch => exact k3.elim
  | outgrown => exact k3.elim
section
variable {P : Program} {N : Sz} {f : Frm} {H : Heap} {ty : TypeId} {g : FuncId}
theorem ret_i {rs : List ResultVar} {R : Value → Heap → Prop} (vs : List Value) (h : resAll P H f rs vs) (k : R (tup vs) H) : retQ P rs R .ret f H := ⟨vs, h, k⟩
theorem ret_n {rs : List ResultVar} {R : Value → Heap → Prop} (vs : List Value) (h : resAll P H f rs vs) (k : R (tup vs) H) : retQ P rs R .normal f H := ⟨vs, h, k⟩
def evs (f : Frm) : List Operand → List Value → Prop
  | [], [] => True
  | x :: r, v :: s => ev f x = some v ∧ evs f r s
  | _, _ => False
theorem FS.evs {a : Act} {H : Heap} (h : FS N f a H) : ∀ {l : List Operand} {vs : List Value}, evs f l vs → l.map a.eval = vs
  | [], [], _ => rfl
  | x :: r, v :: s, ⟨h1, h2⟩ => by rw [List.map_cons, h.ev h1, h.evs h2]
  | [], _ :: _, h => h.elim
  | _ :: _, [], h => h.elim
theorem h_callv {x : Operand} {l : List Operand} {vs cs fs : List Value} {tys : Array TypeId} {R : Value → Heap → Prop} (hc : ∀ args w, (callFunc g args).run P w = .ok (.enter g args) w)
    (hx : ev f x = some (.func (.func g) fs.toArray cs.toArray)) (hv : evs f l vs) (h : HC P g (fs ++ vs ++ cs) H R) : OpH P N (.call ⟨.value x, l.toArray, tys⟩) ty f H R := by
  intro a w hf hH
  simp only [opx, execOp, resolve, List.map_toArray, hf.evs hv, hf.ev hx, Deferred.ofValue, Sem.run_bind, Sem.run_pure, Result.andThen_ok, invoke, hc, hupon, List.append_toArray]
  exact h w hH
theorem h_call {l : List Operand} {vs : List Value} {tys : Array TypeId} {R : Value → Heap → Prop} (hc : ∀ args w, (callFunc g args).run P w = .ok (.enter g args) w) (hv : evs f l vs) (h : HC P g vs H R) :
    OpH P N (.call ⟨.value (.func g), l.toArray, tys⟩) ty f H R :=
  h_callv (fs := []) (cs := []) hc rfl hv (by simpa using h)
/-- a call that leaves the heap as it was -/
theorem v_callv {x : Operand} {l : List Operand} {vs cs fs : List Value} {tys : Array TypeId} {v : Value} (hc : ∀ args w, (callFunc g args).run P w = .ok (.enter g args) w)
    (hx : ev f x = some (.func (.func g) fs.toArray cs.toArray)) (hv : evs f l vs) (h : HC P g (fs ++ vs ++ cs) H (fun v' H' => v' = v ∧ H' = H)) : OpV P N (.call ⟨.value x, l.toArray, tys⟩) ty f H v := by
  intro a w hf hH
  simp only [opx, execOp, resolve, List.map_toArray, hf.evs hv, hf.ev hx, Deferred.ofValue, Sem.run_bind, Sem.run_pure, Result.andThen_ok, invoke, hc, Oper.quietUpon, List.append_toArray]
  exact ⟨trivial, (h w hH).mono fun e w' ⟨v', h1, h2, h3, h4⟩ => ⟨h3 ▸ h1, h4, h2⟩⟩
theorem v_call {l : List Operand} {vs : List Value} {tys : Array TypeId} {v : Value} (hc : ∀ args w, (callFunc g args).run P w = .ok (.enter g args) w) (hv : evs f l vs) (h : HC P g vs H (fun v' H' => v' = v ∧ H' = H)) :
    OpV P N (.call ⟨.value (.func g), l.toArray, tys⟩) ty f H v :=
  v_callv (fs := []) (cs := []) hc rfl hv (by simpa using h)
end
end
section
theorem ai_nil {f : Frm} : AllIn f [] := trivial
theorem ai_cons {f g : Frm} {t : Nat} {v : Value} (h : lk f t = some v) (r : AllIn f g) : AllIn f ((t, v) :: g) := ⟨h, r⟩
theorem evs_nil {f : Frm} : evs f [] [] := trivial
theorem evs_cons {f : Frm} {x : Operand} {v : Value} {l : List Operand} {vs : List Value} (h : ev f x = some v) (r : evs f l vs) : evs f (x :: l) (v :: vs) := ⟨h, r⟩
theorem ra_nil {P : Program} {H : Heap} {f : Frm} : resAll P H f [] [] := trivial
theorem ra_t {P : Program} {H : Heap} {f : Frm} {t : Nat} {v : Value} {r : List ResultVar} {s : List Value} (h : lk f t = some v) (k : resAll P H f r s) : resAll P H f (.tmp t :: r) (v :: s) := ⟨h, k⟩
theorem ra_c {P : Program} {H : Heap} {f : Frm} {a : Nat} {t : TypeId} {b o : Nat} {v : Value} {r : List ResultVar} {s : List Value} (h : lk f a = some (ptr b o)) (hl : ∀ w, w.heap = H → (loadVar t ⟨b, o, none⟩).run P w = .ok v w) (k : resAll P H f r s) :
    resAll P H f (.cell a t :: r) (v :: s) := ⟨⟨b, o, h, hl⟩, k⟩
theorem gvgb_ok {o : Option Value} {g want : Bool} {V v : Value} (h : o = some (gv (gb (gv g V) want) v)) (hg : g = true) : o = some (gv (gb V want) v) := by subst hg; exact h
theorem gb_t {b : Bool} : gb (.bool b) true = b := by cases b <;> rfl
theorem gb_f {b : Bool} : gb (.bool b) false = !b := by cases b <;> rfl
theorem gb_g {c : Bool} {v : Value} {w : Bool} : gb (gv c v) w = (c && gb v w) := by cases c <;> rfl
section
variable {P : Program} {r : Option Nat} {N : Sz} {Q : Post} {f : Frm} {H : Heap} {K : Frm → Heap → Prop}
theorem thenQ_n (h : K f H) : thenQ K Q .normal f H := h
theorem thenQ_e {id : Nat} (h : Q (.exit id) f H) : thenQ K Q (.exit id) f H := h
theorem thenQ_r (h : Q .ret f H) : thenQ K Q .ret f H := h
theorem blockQ_n {id : Nat} (h : Q .normal f H) : blockQ id Q .normal f H := h
theorem blockQ_r {id : Nat} (h : Q .ret f H) : blockQ id Q .ret f H := h
end
theorem take_snoc {α : Type} [Inhabited α] {l : List α} {k : Nat} (h : k < l.length) : l.take (k + 1) = l.take k ++ [l.getD k default] := by
  rw [List.take_add_one, List.getElem?_eq_getElem h]; simp [List.getD, List.getElem?_eq_getElem h]
/-! ## data in memory -/
/-- a block for deferred calls, without any -/
abbrev dfr (H : Heap) (b : Nat) : Prop := H[b]? = some (.deferred (some []))
/-- blocks that hold data -/
abbrev inD (H : Heap) : Nat → Prop := fun b => b < H.size ∧ ¬ dfr H b
structure Rep (α : Type) where
  sz : Nat
  rel : Heap → (Nat → Prop) → List Value → α → Prop
  len : ∀ {H S cs x}, rel H S cs x → cs.length = sz
  one : ∀ {H S cs x}, rel H S cs x → ∀ c ∈ cs, c.oneCell' = true
  ext : ∀ {H H' S S' cs x}, rel H S cs x → (∀ b, S b → b < H.size → H'[b]? = H[b]?) → (∀ b, S b → S' b) → rel H' S' cs x
/-- data without pointers: its cells are a function of it -/
structure Flat (α : Type) where
  enc : α → List Value
  sz : Nat
  len : ∀ x, (enc x).length = sz
  one : ∀ x, ∀ c ∈ enc x, c.oneCell' = true
def Flat.rep {α : Type} (e : Flat α) : Rep α where
  sz := e.sz
  rel := fun _ _ cs x => cs = e.enc x
  len := fun h => by rw [h]; exact e.len _
  one := fun h => by rw [h]; exact e.one _
  ext := fun h _ _ => h
/-- a slice's block, and where it begins -/
def sb : Value → Nat | .slice (some a) _ _ => a.block | _ => 0
def so : Value → Nat | .slice (some a) _ _ => a.off | _ => 0
def sa : Value → Option Addr | .slice a _ _ => a | _ => none
def sc : Value → Nat | .slice _ _ c => c | _ => 0
/-- The slice v holds l, in blocks of which S holds. -/
structure Sl {α : Type} (r : Rep α) (H : Heap) (S : Nat → Prop) (v : Value) (l : List α) : Prop where
  shape : v = .slice (sa v) l.length (sc v)
  cap : l.length ≤ sc v ∧ (sc v : Int) ≤ 9223372036854775807
  mem : ∀ i (h : i < l.length), v = .slice (some ⟨sb v, so v, none⟩) l.length (sc v) ∧ S (sb v) ∧ ∃ cs, At H (sb v) (so v + i * r.sz) cs ∧ r.rel H S cs l[i]
section
variable {α : Type} {r : Rep α} {H H' : Heap} {S S' : Nat → Prop} {v : Value} {l : List α}
theorem Sl.one (h : Sl r H S v l) : v.oneCell' = true := by rw [h.shape]; rfl
theorem At.lt {b o : Nat} {cs : List Value} (h : At H b o cs) (hn : cs ≠ []) : b < H.size := by
  cases cs with
  | nil => exact absurd rfl hn
  | cons c cs =>
    have := h 0 c rfl
    rcases Nat.lt_or_ge b H.size with h1 | h1
    · exact h1
    · simp [cellH, Array.getElem?_eq_none h1] at this
theorem At.same {b o : Nat} {cs : List Value} (h : At H b o cs) (e : H'[b]? = H[b]?) : At H' b o cs := fun j v hv => by
  have := h j v hv; unfold cellH at this ⊢; rwa [e]
theorem At.keep {b o : Nat} {cs : List Value} (h : At H b o cs) (e : b < H.size → H'[b]? = H[b]?) : At H' b o cs := fun j v hv => by
  have hb : b < H.size := h.lt (by rintro rfl; simp at hv)
  exact h.same (e hb) j v hv
theorem Sl.keep (h : Sl r H S v l) (hb : ∀ b, S b → b < H.size → H'[b]? = H[b]?) (hs : ∀ b, S b → S' b) : Sl r H' S' v l :=
  ⟨h.shape, h.cap, fun i hi => by
    obtain ⟨h1, h2, cs, h3, h4⟩ := h.mem i hi
    exact ⟨h1, hs _ h2, cs, h3.keep (hb _ h2), r.ext h4 hb hs⟩⟩
theorem Sl.ext (h : Sl r H S v l) {M : List Nat} (hx : Ext M H H') (hm : ∀ b, S b → b ∉ M) : Sl r H' S v l := h.keep (fun b hb hl => hx.old b hl (hm b hb)) (fun _ h => h)
theorem Sl.ext0 (h : Sl r H S v l) (hx : Ext [] H H') : Sl r H' S v l := h.ext hx (by simp)
theorem Sl.weak (h : Sl r H S v l) (hs : ∀ b, S b → S' b) : Sl r H S' v l := h.keep (fun _ _ _ => rfl) hs
theorem Sl.nil : Sl r H S (.slice none 0 0) [] := ⟨rfl, ⟨Nat.le_refl _, by simp [sc]⟩, fun i h => by simp at h⟩
variable {P : Program} {N : Sz} {f : Frm} {ty t t' e : TypeId} {x y z : Operand}
theorem v_lenL {as : Array TypeId} {t : TypeId} {e : TypeId} (ha : as = #[t]) (ht : P.underlying t = some (.slice e)) (hx : ev f x = some v) (hs : Sl r H S v l) : OpV P N (.call ⟨.builtin .len, #[x], as⟩) ty f H (.int .i64 l.length) := by
  subst ha
  intro c w hf hH
  simp only [opx, execOp, resolve, List.map_toArray, List.map_cons, List.map_nil, hf.ev hx, Sem.run_bind, Sem.run_pure, Result.andThen_ok, invoke, builtin]
  refine quiet_then ?_
  unfold Builtin.len_
  have hv := hs.shape
  rw [hv]; simp only [List.getElem?_toArray, List.getElem?_cons_zero, Sem.run_bind, run_underlying ht, Result.andThen_ok]; rfl
theorem v_ixL {k : IntKind} {i : Int} {sz : Nat} (ht : P.underlying t = some (.slice e)) (hsz : ∀ w, (sizeOf e).run P w = .ok sz w) (hx : ev f x = some v) (hy : ev f y = some (.int k i)) (hs : Sl r H S v l) (h : 0 ≤ i ∧ i < l.length) :
    OpV P N (.indexAddr t x y) ty f H (ptr (sb v) (so v + i.toNat * sz)) := by
  intro a w hf hH
  simp only [opx, execOp, hf.ev hx, hf.ev hy]
  refine quiet_pure ?_
  have h1 : (0 : Int) ≤ i ∧ i < (l.length : Int) := h
  have hv := (hs.mem i.toNat (by omega)).1
  have e2 : Instr.indexAt t v (.int k i) = Instr.indexAt t (.slice (some ⟨sb v, so v, none⟩) l.length (sc v)) (.int k i) := by rw [← hv]
  rw [e2]
  simp only [Instr.indexAt, asIntOf, Sem.run_bind, Sem.run_pure, Result.andThen_ok, run_underlying ht, h1, and_self, if_true, hsz, add_mk, ptr]
/-- an element of one cell -/
theorem v_loadSc {α : Type} [Inhabited α] {g : Flat α} {l : List α} {i : Int} {sz : Nat} {u : Value} (ha : ∀ w, (isAgg t).run P w = .ok false w) (hx : ev f x = some (ptr (sb v) (so v + i.toNat * sz))) (hs : Sl g.rep H S v l) (hsz : g.sz = sz)
    (h : 0 ≤ i ∧ i < l.length) (hu : g.enc (l.getD i.toNat default) = [u]) : OpV P N (.load t x) ty f H u := by
  subst hsz
  have hi : i.toNat < l.length := by omega
  obtain ⟨_, _, cs, h3, h4⟩ := hs.mem i.toNat hi
  refine v_load1 ha hx (h3 0 u ?_)
  have : cs = g.enc l[i.toNat] := h4
  rw [this, ← show l.getD i.toNat default = l[i.toNat] by simp [List.getD, hi], hu]; rfl
theorem v_loadFl {α : Type} [Inhabited α] {g : Flat α} {l : List α} {i : Int} {n : Nat} (ha : ∀ w, (isAgg t).run P w = .ok true w) (hsz : ∀ w, (sizeOf t).run P w = .ok n w) (hx : ev f x = some (ptr (sb v) (so v + i.toNat * n))) (hs : Sl g.rep H S v l) (hn : g.sz = n)
    (h : 0 ≤ i ∧ i < l.length) : OpV P N (.load t x) ty f H (.agg (g.enc (l.getD i.toNat default)).toArray) := by
  subst hn
  have hi : i.toNat < l.length := by omega
  obtain ⟨_, _, cs, h3, h4⟩ := hs.mem i.toNat hi
  have h5 : cs = g.enc l[i.toNat] := h4
  rw [show l.getD i.toNat default = l[i.toNat] by simp [List.getD, hi]]
  exact v_loadA ha hsz hx (h5 ▸ h3) (g.len _)
def slv (v : Value) (sz lo n : Nat) : Value := .slice (if sc v = lo then sa v else (sa v).map (fun a : Addr => a.add (lo * sz))) n (sc v - lo)
theorem Sl.slice (h : Sl r H S v l) {lo hi : Nat} (h1 : lo ≤ hi) (h2 : hi ≤ l.length) : Sl r H S (slv v r.sz lo (hi - lo)) ((l.take hi).drop lo) := by
  have hlen : ((l.take hi).drop lo).length = hi - lo := by simp; omega
  obtain ⟨hc1, hc2⟩ := h.cap
  unfold Go.Proofs.YtaopgjfioabfpaaGreat.slv
  by_cases hz : lo < hi
  · obtain ⟨e1, e2, _⟩ := h.mem lo (by omega)
    have hne : ¬ sc v = lo := by omega
    have ea : sa v = some ⟨sb v, so v, none⟩ := by rw [e1]; rfl
    rw [if_neg hne, ea]
    simp only [Option.map_some, add_mk]
    refine ⟨?_, ?_, ?_⟩
    · rw [hlen]; rfl
    · rw [hlen]; show _ ≤ sc v - lo ∧ ((sc v - lo : Nat) : Int) ≤ _; omega
    · intro i hi'
      rw [hlen] at hi' ⊢
      obtain ⟨_, _, cs, h3, h4⟩ := h.mem (lo + i) (by omega)
      refine ⟨rfl, e2, cs, ?_, ?_⟩
      · show At H (sb v) (so v + lo * r.sz + i * r.sz) cs
        rwa [Nat.add_assoc, ← Nat.add_mul]
      · simpa using h4
  · have : (l.take hi).drop lo = [] := List.eq_nil_of_length_eq_zero (by omega)
    rw [this]
    have e0 : hi - lo = 0 := by omega
    rw [e0]
    refine ⟨rfl, ?_, fun i hi => by simp at hi⟩
    · show _ ≤ sc v - lo ∧ ((sc v - lo : Nat) : Int) ≤ _
      simp only [List.length_nil]; omega
theorem Sl.slv (h : Sl r H S v l) {lo hi : Nat} (h1 : lo ≤ hi) (h2 : hi ≤ l.length) {sz : Nat} (hsz : r.sz = sz) : Sl r H S (slv v sz lo (hi - lo)) ((l.take hi).drop lo) := by
  subst hsz; exact h.slice h1 h2
theorem Sl.slvl (h : Sl r H S v l) {lo : Nat} (h1 : lo ≤ l.length) {sz : Nat} (hsz : r.sz = sz) : Sl r H S (Go.Proofs.YtaopgjfioabfpaaGreat.slv v sz lo (l.length - lo)) (l.drop lo) := by
  have := h.slv h1 (Nat.le_refl _) hsz
  rwa [List.take_length] at this
theorem Sl.slvh (h : Sl r H S v l) {hi : Nat} (h2 : hi ≤ l.length) {sz : Nat} (hsz : r.sz = sz) : Sl r H S (Go.Proofs.YtaopgjfioabfpaaGreat.slv v sz 0 hi) (l.take hi) := by
  have := h.slv (Nat.zero_le _) h2 hsz
  rwa [List.drop_zero, Nat.sub_zero] at this
theorem run_sliceL {lo hi : Option Int} {sz : Nat} (ht : P.underlying t = some (.slice e)) (hsz : ∀ w, (sizeOf e).run P w = .ok sz w) (hs : Sl r H S v l)
    (h : 0 ≤ lo.getD 0 ∧ lo.getD 0 ≤ hi.getD l.length ∧ hi.getD l.length ≤ l.length) (w : World) :
    (Instr.sliceAt t v (lo.map (Value.int .i64)) (hi.map (Value.int .i64)) none).run P w = .ok (slv v sz (lo.getD 0).toNat ((hi.getD l.length).toNat - (lo.getD 0).toNat)) w := by
  obtain ⟨hc1, hc2⟩ := hs.cap
  obtain ⟨a, hv⟩ : ∃ a, v = .slice a l.length (sc v) := ⟨_, hs.shape⟩
  generalize sc v = c at hv hc1 hc2
  subst hv
  have h3 : 0 ≤ hi.getD l.length ∧ hi.getD l.length ≤ (c : Int) := by omega
  cases lo with
  | none =>
    cases hi with
    | none =>
      simp [Instr.sliceAt, Instr.slice, run_underlying ht, Instr.sliceBounds, hsz, slv, sc, sa]
    | some j =>
      simp only [Option.getD_some, Option.getD_none] at h h3
      simp [Instr.sliceAt, Instr.slice, run_underlying ht, Instr.sliceBounds, Instr.sliceBound, asIntOf, hsz, h3, slv, sc, sa]
  | some i =>
    cases hi with
    | none =>
      simp only [Option.getD_some, Option.getD_none] at h h3
      have h4 : 0 ≤ i ∧ i ≤ (l.length : Int) := by omega
      simp [Instr.sliceAt, Instr.slice, run_underlying ht, Instr.sliceBounds, Instr.sliceBound, asIntOf, hsz, h4, slv, sc, sa]
      by_cases hq : c = i.toNat <;> simp [hq]
    | some j =>
      simp only [Option.getD_some] at h h3
      have h4 : 0 ≤ i ∧ i ≤ ((j.toNat : Nat) : Int) := by omega
      have h5 : i ≤ max j 0 := by omega
      simp [Instr.sliceAt, Instr.slice, run_underlying ht, Instr.sliceBounds, Instr.sliceBound, asIntOf, hsz, h3, h4, h5, slv, sc, sa]
      by_cases hq : c = i.toNat <;> simp [hq]
theorem v_sliceL {lo hi : Int} {sz : Nat} (ht : P.underlying t = some (.slice e)) (hsz : ∀ w, (sizeOf e).run P w = .ok sz w) (hx : ev f x = some v) (hy : ev f y = some (.int .i64 lo)) (hz : ev f z = some (.int .i64 hi)) (hs : Sl r H S v l)
    (h : 0 ≤ lo ∧ lo ≤ hi ∧ hi ≤ l.length) : OpV P N (.slice t x (some y) (some z) none) ty f H (slv v sz lo.toNat (hi.toNat - lo.toNat)) := by
  intro c w hf hH
  simp only [opx, execOp, Option.map_some, Option.map_none, hf.ev hx, hf.ev hy, hf.ev hz]
  exact quiet_pure (run_sliceL (lo := some lo) (hi := some hi) ht hsz hs h w)
theorem v_sliceLl {lo : Int} {sz : Nat} (ht : P.underlying t = some (.slice e)) (hsz : ∀ w, (sizeOf e).run P w = .ok sz w) (hx : ev f x = some v) (hy : ev f y = some (.int .i64 lo)) (hs : Sl r H S v l)
    (h : 0 ≤ lo ∧ lo ≤ l.length) : OpV P N (.slice t x (some y) none none) ty f H (slv v sz lo.toNat (l.length - lo.toNat)) := by
  intro c w hf hH
  simp only [opx, execOp, Option.map_some, Option.map_none, hf.ev hx, hf.ev hy]
  exact quiet_pure (run_sliceL (lo := some lo) (hi := none) ht hsz hs (by simpa using h) w)
theorem v_sliceLh {hi : Int} {sz : Nat} (ht : P.underlying t = some (.slice e)) (hsz : ∀ w, (sizeOf e).run P w = .ok sz w) (hx : ev f x = some v) (hz : ev f z = some (.int .i64 hi)) (hs : Sl r H S v l)
    (h : 0 ≤ hi ∧ hi ≤ l.length) : OpV P N (.slice t x none (some z) none) ty f H (slv v sz 0 hi.toNat) := by
  intro c w hf hH
  simp only [opx, execOp, Option.map_some, Option.map_none, hf.ev hx, hf.ev hz]
  exact quiet_pure (run_sliceL (lo := none) (hi := some hi) ht hsz hs (by simpa using h) w)
end
/-- slices as data -/
def Rep.sl {α : Type} (r : Rep α) : Rep (List α) where
  sz := 1
  rel := fun H S cs l => ∃ v, cs = [v] ∧ Sl r H S v l
  len := fun ⟨_, h, _⟩ => by rw [h]; rfl
  one := fun ⟨v, h, hs⟩ c hc => by rw [h] at hc; simp at hc; rw [hc]; exact hs.one
  ext := fun ⟨v, h, hs⟩ hb hS => ⟨v, h, hs.keep hb hS⟩
/-! ## plain data -/
def fInt : Flat Int := ⟨fun n => [.int .i64 n], 1, fun _ => rfl, fun _ c h => by simp at h; subst h; rfl⟩
def fStr : Flat (List UInt8) := ⟨fun s => [str s], 1, fun _ => rfl, fun _ c h => by simp at h; subst h; rfl⟩
def fByte : Flat UInt8 := ⟨fun b => [.int .u8 b.toNat], 1, fun _ => rfl, fun _ c h => by simp at h; subst h; rfl⟩
def fBool : Flat Bool := ⟨fun b => [.bool b], 1, fun _ => rfl, fun _ c h => by simp at h; subst h; rfl⟩
end
end Go.Proofs.YtaopgjfioabfpaaGreat
