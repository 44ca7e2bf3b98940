/- Several texts in one. No condition. -/
import Derived.Test.YtaopgjfioabfpaaGreatMg8FunTells
import Derived.RangeFuncRecord
import Derived.Below
set_option linter.unusedVariables false
set_option linter.unusedSimpArgs false
set_option maxRecDepth 20000
namespace Go.Proofs.YtaopgjfioabfpaaGreat
section
/-- what a call of yield does -/
def HY (P : Program) (l : Nat) (args : List Value) (H : Heap) (R : Value → Heap → Prop) : Prop :=
  ∀ w, w.heap = H → ∃ (fn : FuncId) (tmps : Array Value) (assign body : Code), (Instr.yield l args.toArray).run P w = .ok (.round l fn tmps assign body) w ∧
    RoundIn Fence.wide 0 P l fn tmps assign body w (fun e w'' => ∃ v, e = .returned v ∧ Env w w'' ∧ R v w''.heap)
/-- an iterator: it yields enc 0, enc 1 .. enc (n - 1), or is stopped -/
def ItC (P : Program) (g : FuncId) (caps : List Value) (enc : Nat → List Value) (n : Nat) (Dat : Heap → Prop) : Prop :=
  ∀ (l : Nat) (J : Nat → Heap → Prop) (Jx : Heap → Prop) (H1 : Heap), (∀ k G, J k G → Dat G) → (∀ k G G', J k G → Ext [] G G' → J k G') →
    (∀ k, k < n → ∀ G, J k G → HY P l (enc k) G (fun v G' => (v = .bool true ∧ J (k + 1) G') ∨ (v = .bool false ∧ Jx G'))) → J 0 H1 →
    HC P g (.func (.yield l) #[] #[] :: caps) H1 (fun _ G' => J n G' ∨ Jx G')
section
variable {P : Program} {N : Sz} {f : Frm} {H : Heap} {ty : TypeId} {Q : Post}
theorem y_call {x : Operand} {l : Nat} {xs : List Operand} {vs : List Value} {tys : Array TypeId} {R : Value → Heap → Prop} (hx : ev f x = some (.func (.yield l) #[] #[])) (hv : evs f xs vs) (h : HY P l vs H R) :
    OpY P N (.call ⟨.value x, xs.toArray, tys⟩) ty f H R := by
  refine ⟨fun c => by simp, fun a w hf hH => ?_⟩
  obtain ⟨fn, tmps, assign, body, h1, h2⟩ := h w hH
  refine ⟨l, fn, tmps, assign, body, w, ?_, h2⟩
  simp only [opx, execOp, resolve, List.map_toArray, hf.evs hv, hf.ev hx, Deferred.ofValue, Sem.run_bind, Sem.run_pure, Result.andThen_ok, invoke, Array.append_empty, Array.empty_append, h1]
/-- a guarded call of yield that answers with a bool -/
theorem hl_gyb {r : Option Nat} {l0 rest : List Oper} {d : Nat} {op : Op} {p : String} {af : Array Edge} {j : Nat} {want : Bool} {vg : Value} {dj : Nat} {R : Value → Heap → Prop} {Rb : Bool → Heap → Prop} (hj : gslot l0 j = some dj) (hv : lk f dj = some vg) (h : gb vg want = true → OpY P N op ty f H R)
    (hR : ∀ v H', R v H' → ∃ b, v = .bool b ∧ Rb b H') (hd : Nat.blt d N.1 = true)
    (k : ∀ b H', (gb vg want = true ∧ Rb b H') ∨ (gb vg want = false ∧ H' = H) → HL P r N l0 rest Q ((d, gv (gb vg want) (.bool b)) :: f) H') : HL P r N l0 (⟨some d, op, ty, p, af, some (j, want)⟩ :: rest) Q f H := by
  cases hc : gb vg want
  · refine hl_gf hj hv hc hd ?_
    have := k true H (.inr ⟨hc, rfl⟩)
    rw [hc] at this
    exact this
  · refine hl_gy hj hv hc (h hc) hd fun v H' hr => ?_
    obtain ⟨b, rfl, hb⟩ := hR v H' hr
    have := k b H' (.inl ⟨hc, hb⟩)
    rw [hc] at this
    exact this
/-- block l, a loop's record, turned -/
structure Chg (l : Nat) (G G' : Heap) : Prop where
  was : ∃ r, G[l]? = some (.loop r)
  ext : Ext [l] G G'
  size : G'.size = G.size
theorem Chg.set {l : Nat} {G : Heap} {r : Loop} (h : G[l]? = some (.loop r)) (o : Obj) : Chg l G (G.setIfInBounds l o) := ⟨⟨r, h⟩, Ext.set _ _ _, by simp⟩
theorem Blk.chg {l : Nat} {G G' : Heap} {b : Nat} {cs : List Value} {T : TypeId} (h : Blk G b cs T) (c : Chg l G G') : Blk G' b cs T :=
  c.ext.blk h (by
    obtain ⟨r, hr⟩ := c.was
    intro e
    simp at e
    subst e
    unfold Blk at h
    rw [h] at hr; cases hr)
theorem OwR.chg {l : Nat} {G G' : Heap} {B : Nat} {e : TypeId} {sz : Nat} {v : Value} {n : Nat} {xs : List Value} (h : OwR G B e sz v n xs) (c : Chg l G G') : OwR G' B e sz v n xs :=
  h.ext c.ext (by
    obtain ⟨r, hr⟩ := c.was
    intro b hb hl
    simp at hl
    subst hl
    rcases h.2 with ⟨rfl, _⟩ | ⟨k, cap, cur, rfl, h3, h4, _⟩
    · simp [mb] at hb
    · simp [mb] at hb; subst hb; rw [h4] at hr; cases hr)
theorem Ow.chg {α : Type} {g : Flat α} {l : Nat} {G G' : Heap} {B : Nat} {e : TypeId} {v : Value} {xs : List α} (h : Ow g G B e v xs) (c : Chg l G G') : Ow g G' B e v xs := OwR.chg h c
/-- how a round's body may end -/
def rQ (J : Heap → Prop) (Jx : Code → Heap → Prop) : Post
  | .normal, _, G => J G
  | .ret, _, G => Jx .ret G
  | .exit id, _, G => Jx (.exit id) G
  | _, _, _ => False
def psf : List Tmp → List Value → Frm → Frm
  | p :: ps, v :: vs, f => psf ps vs ((p, v) :: f)
  | _, _, f => f
theorem foldl_ps {N : Nat} : ∀ (ps : List Tmp) (vs : List Value) (f : Frm) (t : Array Value), (ps.all fun p => Nat.blt p N) = true → t.size = N → (∀ s v, lk f s = some v → t[s]? = some v) →
    ((ps.zip vs).foldl (fun t (p : Tmp × Value) => t.setIfInBounds p.1 p.2) t).size = N ∧ ∀ s v, lk (psf ps vs f) s = some v → ((ps.zip vs).foldl (fun t (p : Tmp × Value) => t.setIfInBounds p.1 p.2) t)[s]? = some v
  | [], vs, f, t, _, h1, h2 => ⟨h1, h2⟩
  | p :: ps, [], f, t, _, h1, h2 => ⟨h1, h2⟩
  | p :: ps, v :: vs, f, t, hp, h1, h2 => by
    simp only [List.all_cons, Bool.and_eq_true] at hp
    refine foldl_ps ps vs ((p, v) :: f) (t.setIfInBounds p v) hp.2 (by simp [h1]) fun s u hl => ?_
    rw [lk_cons] at hl
    rw [Array.getElem?_setIfInBounds]
    have hlt : p < t.size := by rw [h1]; exact blt_lt hp.1
    split at hl
    · rename_i e; subst e; cases hl; simp [hlt]
    · rename_i e; rw [if_neg (fun e' => e e'.symm)]; exact h2 _ _ hl
/-- **The statement.** -/
theorem hw_range {x : Operand} {g : FuncId} {caps : List Value} {ps : List Tmp} {assign body : Code} {enc : Nat → List Value} {n : Nat} {Dat : Heap → Prop} {B M : Nat}
    (hx : ev f x = some (.func (.func g) #[] caps.toArray)) (hg : ∀ args w, (callFunc g args).run P w = .ok (.enter g args) w) (hit : ItC P g caps enc n Dat) (hps : (ps.all fun p => Nat.blt p M) = true) (henc : ∀ k, (enc k).length = ps.length) (hB : B ≤ H.size)
    (I : Nat → Heap → Prop) (Ix : Code → Heap → Prop) (hD : ∀ k G, I k G → Dat G) (hI : ∀ k G G', I k G → Ext [] G G' → I k G') (hc : ∀ k G G', I k G → Chg (H.size + 1) G G' → I k G') (hcx : ∀ c G G', Ix c G → Chg (H.size + 1) G G' → Ix c G') (h0 : I 0 H)
    (hround : ∀ k, k < n → ∀ G, I k G → H.size + 2 ≤ G.size → HW P (some (H.size + 1)) (M, none) assign (fun e f1 G1 => e = .normal ∧ G1 = G ∧ ∀ G2, I k G2 → H.size + 2 ≤ G2.size → HW P (some (H.size + 1)) (M, none) body (rQ (I (k + 1)) Ix) f1 G2) (psf ps (enc k) f) G)
    (hdone : ∀ G, I n G → H.size + 2 ≤ G.size → Q .normal f G) (hjump : ∀ c G, Ix c G → H.size + 2 ≤ G.size → HW P none (M, some B) c Q f G) :
    HW P none (M, some B) (.rangeFunc x ps.toArray assign body) Q f H := by
  intro w0 a w h1 h2 h3
  subst h2
  refine wpIn_rangeFunc fun fn hfn => ?_
  obtain ⟨rec, hrec⟩ : ∃ rec : LoopState → Option Code → Loop, rec = fun st pe => { state := st, pending := pe, fn, tmps := a.tmps, params := ps.toArray, assign, body, defers := w.heap.size } := ⟨_, rfl⟩
  obtain ⟨W1, hW1⟩ : ∃ W1, (w.alloc (.deferred (some []))).alloc (.loop (rec .ready none)) = W1 := ⟨_, rfl⟩
  have hL1 : W1.heap[w.heap.size + 1]? = some (.loop (rec .ready none)) := by
    rw [← hW1]; have := World.alloc_heap_new (w.alloc (.deferred (some []))) (.loop (rec .ready none)); rwa [World.size_alloc] at this
  have hK1 : W1.heap[w.heap.size]? = some (.deferred (some [])) := by
    rw [← hW1]; exact (Go.RowKit.Below.heap_alloc _ _ _ (by simp)).trans (World.alloc_heap_new w _)
  have hx1 : Ext [] w.heap W1.heap := by
    rw [← hW1]
    refine ⟨by simp; omega, fun b hb _ => ?_⟩
    exact (Go.RowKit.Below.heap_alloc _ _ _ (by simp; omega)).trans (Go.RowKit.Below.heap_alloc _ _ _ hb)
  have hs1 : W1.heap.size = w.heap.size + 2 := by rw [← hW1]; simp
  have he1 : Env w W1 := by rw [← hW1] at hx1 ⊢; exact ⟨rfl, rfl, rfl, hx1.keep, Nat.le_refl _⟩
  refine ⟨w.heap.size + 1, [mark w.heap.size], W1, { target := .fn (.func g) caps.toArray, args := #[.func (.yield (w.heap.size + 1)) #[] #[]] }, W1, g,
    #[.func (.yield (w.heap.size + 1)) #[] #[]] ++ caps.toArray, W1, ?_, ?_, ?_, ?_, (fun h => Bool.noConfusion h), ?_⟩
  · rw [← hW1, hrec]; exact run_enterLoop_outer _ _ _ _ _
  · simp only [resolve, h1.ev hx]
    simp [go_sem]
  · intro f' hf'; trivial
  · simp [invoke, go_sem, hg]
  · have hcall := hit (w.heap.size + 1) (fun k G => I k G ∧ G[w.heap.size + 1]? = some (.loop (rec .ready none)) ∧ G[w.heap.size]? = some (.deferred (some [])) ∧ w.heap.size + 2 ≤ G.size)
      (fun G => ∃ c, Ix c G ∧ G[w.heap.size + 1]? = some (.loop (rec .done (some c))) ∧ G[w.heap.size]? = some (.deferred (some [])) ∧ w.heap.size + 2 ≤ G.size) W1.heap
      (fun k G h => hD k G h.1)
      (fun k G G' ⟨i1, i2, i3, i4⟩ hx => ⟨hI k G G' i1 hx, (hx.old _ (by omega) (by simp)).trans i2, (hx.old _ (by omega) (by simp)).trans i3, Nat.le_trans i4 hx.size⟩)
      ?_ ⟨hI 0 _ _ h0 hx1, hL1, hK1, by omega⟩ W1 rfl
    · have hc2 : CallsIn Fence.wide 0 P g (Value.func (.yield (w.heap.size + 1)) #[] #[] :: caps).toArray W1 _ := callsIn_wide.2 hcall
      have e3 : (#[Value.func (.yield (w.heap.size + 1)) #[] #[]] ++ caps.toArray) = (Value.func (.yield (w.heap.size + 1)) #[] #[] :: caps).toArray := by simp
      rw [e3]
      refine CallsIn.mono (F := Fr none) hc2 ?_
      rintro e w3 ⟨v, rfl, henv, hR⟩
      rcases hR with ⟨i1, i2, i3, i4⟩ | ⟨c, i1, i2, i3, i4⟩
      · refine ⟨_, _, run_endLoop i2 (by rw [hrec]; simp), ?_⟩
        have hch := Chg.set i2 (.loop { rec .ready none with state := .exhausted })
        have hkeep : Keep w.heap (w3.putObj (w.heap.size + 1) (.loop { rec .ready none with state := .exhausted })).heap := fun D o hd ho => by
          have hlt := (Array.getElem?_eq_some_iff.1 hd).1
          refine (World.putObj_heap_other (by omega)).trans (henv.keep D o ?_ ho)
          exact (hx1.old D hlt (by simp)).trans hd
        have hfs : FS (M, some B) f { a with defers := [mark w.heap.size] ++ a.defers } (w3.putObj (w.heap.size + 1) (.loop { rec .ready none with state := .exhausted })).heap := by
          refine ⟨⟨?_, ?_⟩, h1.2⟩
          · refine List.nodup_cons.2 ⟨fun hm => ?_, h1.1.1⟩
            obtain ⟨D, k1, k2, k3⟩ := h1.1.2 _ hm
            have k4 : w.heap.size = D := by simpa [mark] using k1
            have := (Array.getElem?_eq_some_iff.1 k3).1
            omega
          intro d hd
          simp only [List.singleton_append, List.mem_cons] at hd
          rcases hd with rfl | hd
          · exact ⟨w.heap.size, rfl, hB, (World.putObj_heap_other (by omega)).trans i3⟩
          · obtain ⟨D, k1, k2, k3⟩ := h1.1.2 d hd
            exact ⟨D, k1, k2, hkeep D _ k3 trivial⟩
        rw [hrec]
        simp only
        rw [hrec] at hfs hkeep hch
        exact ⟨h3.trans (he1.trans (henv.trans ⟨rfl, rfl, rfl, fun D o hd ho => (World.putObj_heap_other (fun e => by subst e; rw [i2, hrec] at hd; cases hd; cases ho)).trans hd, Nat.le_refl _⟩)), f, hfs,
          hdone _ (hc n _ _ i1 hch) (by show w.heap.size + 2 ≤ (Array.setIfInBounds _ _ _).size; simp; exact i4)⟩
      · refine ⟨_, _, run_endLoop i2 (by rw [hrec]; simp), ?_⟩
        have hch := Chg.set i2 (.loop { rec .done (some c) with state := .exhausted })
        have hkeep : Keep w.heap (w3.putObj (w.heap.size + 1) (.loop { rec .done (some c) with state := .exhausted })).heap := fun D o hd ho => by
          have hlt := (Array.getElem?_eq_some_iff.1 hd).1
          refine (World.putObj_heap_other (by omega)).trans (henv.keep D o ?_ ho)
          exact (hx1.old D hlt (by simp)).trans hd
        have hfs : FS (M, some B) f { a with defers := [mark w.heap.size] ++ a.defers } (w3.putObj (w.heap.size + 1) (.loop { rec .done (some c) with state := .exhausted })).heap := by
          refine ⟨⟨?_, ?_⟩, h1.2⟩
          · refine List.nodup_cons.2 ⟨fun hm => ?_, h1.1.1⟩
            obtain ⟨D, k1, k2, k3⟩ := h1.1.2 _ hm
            have k4 : w.heap.size = D := by simpa [mark] using k1
            have := (Array.getElem?_eq_some_iff.1 k3).1
            omega
          intro d hd
          simp only [List.singleton_append, List.mem_cons] at hd
          rcases hd with rfl | hd
          · exact ⟨w.heap.size, rfl, hB, (World.putObj_heap_other (by omega)).trans i3⟩
          · obtain ⟨D, k1, k2, k3⟩ := h1.1.2 d hd
            exact ⟨D, k1, k2, hkeep D _ k3 trivial⟩
        rw [hrec]
        simp only
        rw [hrec] at hfs hkeep hch
        refine hjump c _ (hcx c _ _ i1 hch) (by simp; exact i4) w0 _ _ hfs rfl ?_
        exact h3.trans (he1.trans (henv.trans ⟨rfl, rfl, rfl, fun D o hd ho => (World.putObj_heap_other (fun e => by subst e; rw [i2, hrec] at hd; cases hd; cases ho)).trans hd, Nat.le_refl _⟩))
    · -- one round
      rintro k hk G ⟨i1, i2, i3, i4⟩ W rfl
      have hy := run_yield (P := P) (w := W) (args := (enc k).toArray) i2 (by rw [hrec]; simp [henc k])
      rw [hrec] at hy
      refine ⟨fn, _, assign, body, hy, roundIn_of_wpIn trivial ?_⟩
      have hfold := foldl_ps (N := M) ps (enc k) f a.tmps hps h1.2.1 h1.2.2
      have e4 : (ps.toArray.zip (enc k).toArray).foldl (fun tmps (x : Tmp × Value) => tmps.setIfInBounds x.1 x.2) a.tmps = (ps.zip (enc k)).foldl (fun t (p : Tmp × Value) => t.setIfInBounds p.1 p.2) a.tmps := by simp
      have hfs : FS (M, none) (psf ps (enc k) f) { tmps := (ps.toArray.zip (enc k).toArray).foldl (fun tmps (x : Tmp × Value) => tmps.setIfInBounds x.1 x.2) a.tmps, defers := [] } W.heap := by
        rw [e4]; exact ⟨rfl, hfold.1, hfold.2⟩
      refine wpIn_mono (F := Fr (some (w.heap.size + 1))) (hround k hk W.heap i1 i4 W _ W hfs rfl (.refl _)) ?_
      rintro e a1 w1 ⟨henv1, f1, hf1, rfl, hG1, hbody⟩
      have i2' : w1.heap[w.heap.size + 1]? = some (.loop (rec .ready none)) := by rw [hG1]; exact i2
      have hb := run_beginRound (P := P) (w := w1) i2' (by rw [hrec])
      refine ⟨_, hb, ?_⟩
      have hch := Chg.set i2' (.loop { rec .ready none with state := .busy })
      have hG2 : (w1.putObj (w.heap.size + 1) (.loop { rec .ready none with state := .busy })).heap = w1.heap.setIfInBounds (w.heap.size + 1) (.loop { rec .ready none with state := .busy }) := rfl
      have i5 := hc k _ _ (hG1 ▸ i1) hch
      have hsz : w.heap.size + 2 ≤ w1.heap.size := by rw [hG1]; exact i4
      have hbusy : (w1.putObj (w.heap.size + 1) (.loop { rec .ready none with state := .busy })).heap[w.heap.size + 1]? = some (.loop { rec .ready none with state := .busy }) := World.putObj_heap_same (by omega)
      have hdef : (w1.putObj (w.heap.size + 1) (.loop { rec .ready none with state := .busy })).heap[w.heap.size]? = some (.deferred (some [])) := (World.putObj_heap_other (by omega)).trans (by rw [hG1]; exact i3)
      refine wpIn_mono (F := Fr (some (w.heap.size + 1))) (hbody _ i5 (by rw [← hG2]; simp; exact hsz) (w1.putObj (w.heap.size + 1) (.loop { rec .ready none with state := .busy })) a1 (w1.putObj (w.heap.size + 1) (.loop { rec .ready none with state := .busy })) ⟨hf1.1, hf1.2⟩ rfl (.refl _)) ?_
      rintro e2 a2 w2 ⟨henv2, f2, hf2, hq⟩
      have j1 := henv2.keep _ _ hbusy rfl
      have j2 := henv2.keep _ _ hdef trivial
      have j3 : w.heap.size + 2 ≤ w2.heap.size := (Array.getElem?_eq_some_iff.1 j1).1
      have fin : ∀ (st : LoopState) (pe : Option Code), Env W (w2.putObj (w.heap.size + 1) (.loop (rec st pe))) := fun st pe => by
        refine ⟨henv2.tape.trans henv1.tape, henv2.os.trans henv1.os, henv2.output.trans henv1.output, fun D o hd ho => ?_, Nat.le_trans henv1.drawn henv2.drawn⟩
        have hne : D ≠ w.heap.size + 1 := by rintro rfl; rw [i2, hrec] at hd; cases hd; cases ho
        refine (World.putObj_heap_other hne).trans (henv2.keep D o ?_ ho)
        exact (World.putObj_heap_other hne).trans (by rw [hG1]; exact hd)
      have e5 : ∀ (jump : Option Code), ({ ({ rec .ready none with state := .busy } : Loop) with state := if jump.isNone then .ready else .done, pending := jump } : Loop) = rec (if jump.isNone then .ready else .done) jump := fun jump => by rw [hrec]
      have hend : ∀ (jump : Option Code), (Instr.endRound (w.heap.size + 1) jump).run P w2 = .ok (.bool jump.isNone) (w2.putObj (w.heap.size + 1) (.loop (rec (if jump.isNone then .ready else .done) jump))) := fun jump => by
        rw [run_endRound jump j1, e5]
      have hgo : ∀ (jump : Option Code), (w2.putObj (w.heap.size + 1) (.loop (rec (if jump.isNone then .ready else .done) jump))).heap[w.heap.size + 1]? = some (.loop (rec (if jump.isNone then .ready else .done) jump)) := fun jump => World.putObj_heap_same (by omega)
      have hch2 : ∀ (jump : Option Code), Chg (w.heap.size + 1) w2.heap (w2.putObj (w.heap.size + 1) (.loop (rec (if jump.isNone then .ready else .done) jump))).heap := fun jump => Chg.set j1 _
      have hd2 : ∀ (jump : Option Code), (w2.putObj (w.heap.size + 1) (.loop (rec (if jump.isNone then .ready else .done) jump))).heap[w.heap.size]? = some (.deferred (some [])) := fun jump => (World.putObj_heap_other (by omega)).trans j2
      have hz2 : ∀ (jump : Option Code), w.heap.size + 2 ≤ (w2.putObj (w.heap.size + 1) (.loop (rec (if jump.isNone then .ready else .done) jump))).heap.size := fun jump => by simp; exact j3
      cases e2 with
      | normal => exact ⟨_, _, hend none, _, rfl, fin _ _, .inl ⟨rfl, hc _ _ _ hq (hch2 none), hgo none, hd2 none, hz2 none⟩⟩
      | ret => exact ⟨_, _, hend (some .ret), _, rfl, fin _ _, .inr ⟨rfl, .ret, hcx _ _ _ hq (hch2 (some .ret)), hgo (some .ret), hd2 (some .ret), hz2 (some .ret)⟩⟩
      | exit id => exact ⟨_, _, hend (some (.exit id)), _, rfl, fin _ _, .inr ⟨rfl, .exit id, hcx _ _ _ hq (hch2 (some (.exit id))), hgo (some (.exit id)), hd2 (some (.exit id)), hz2 (some (.exit id))⟩⟩
      | goto t => exact hq.elim
      | panic ch => exact hq.elim
      | outgrown => exact hq.elim
/-- blocks of the function's own for deferred calls may be shut -/
def Shut (B : Nat) (G G' : Heap) : Prop := G'.size = G.size ∧ ∀ b : Nat, G'[b]? = G[b]? ∨ (B ≤ b ∧ G[b]? = some (.deferred (some [])))
theorem Shut.refl (B : Nat) (G : Heap) : Shut B G G := ⟨rfl, fun _ => .inl rfl⟩
theorem Shut.cells {B : Nat} {G G' : Heap} (h : Shut B G G') {b : Nat} {o : Obj} (hb : G[b]? = some o) (ho : o ≠ .deferred (some [])) : G'[b]? = some o := by
  rcases h.2 b with h1 | ⟨_, h1⟩
  · rw [h1, hb]
  · rw [hb] at h1; cases h1; exact absurd rfl ho
theorem Blk.shut {B : Nat} {G G' : Heap} {b : Nat} {cs : List Value} {T : TypeId} (h : Blk G b cs T) (k : Shut B G G') : Blk G' b cs T := k.cells h (by simp)
theorem Ext.shut {B : Nat} {A G G' : Heap} (h : Ext [] A G) (k : Shut B G G') (hB : A.size ≤ B) : Ext [] A G' :=
  ⟨by rw [k.1]; exact h.size, fun b hb _ => by
    rcases k.2 b with h1 | ⟨h1, _⟩
    · rw [h1]; exact h.old b hb (by simp)
    · omega⟩
theorem OwR.shut {C : Nat} {G G' : Heap} {B : Nat} {e : TypeId} {sz : Nat} {v : Value} {n : Nat} {xs : List Value} (h : OwR G B e sz v n xs) (k : Shut C G G') : OwR G' B e sz v n xs := by
  obtain ⟨h1, h2⟩ := h
  refine ⟨h1, ?_⟩
  rcases h2 with h2 | ⟨j, cap, cur, h3, h4, h5, h6⟩
  · exact .inl h2
  · exact .inr ⟨j, cap, cur, h3, h4, k.cells h5 (by simp), h6⟩
theorem Ow.shut {α : Type} {g : Flat α} {C : Nat} {G G' : Heap} {B : Nat} {e : TypeId} {v : Value} {xs : List α} (h : Ow g G B e v xs) (k : Shut C G G') : Ow g G' B e v xs := OwR.shut h k
/-- the end of a function that holds a range over a function -/
def retM (P : Program) (rs : List ResultVar) (B : Nat) (R : Value → Heap → Prop) : Post
  | .ret, f, G => ∀ G', Shut B G G' → ∃ vs, resAll P G' f rs vs ∧ R (tup vs) G'
  | .normal, f, G => ∀ G', Shut B G G' → ∃ vs, resAll P G' f rs vs ∧ R (tup vs) G'
  | _, _, _ => False
theorem leaves_marks {fn : Func} {tmps : Array Value} {B : Nat} {R' : Ending → World → Prop} (w1 : World) (hend : ∀ w', Env w1 w' ∨ True → w'.tape = w1.tape → w'.os = w1.os → w'.output = w1.output ∧ w1.drawn ≤ w'.drawn → Shut B w1.heap w'.heap → LeavesIn Fence.wide 0 P fn tmps R' [] .returning w') :
    ∀ (ds : List Deferred) (w : World), ds.Nodup → (∀ d ∈ ds, ∃ D, d = mark D ∧ B ≤ D ∧ w.heap[D]? = some (.deferred (some []))) → w.tape = w1.tape → w.os = w1.os → w.output = w1.output ∧ w1.drawn ≤ w.drawn → Shut B w1.heap w.heap →
      LeavesInM Fence.wide 0 P fn tmps R' ds .returning w
  | [], w, _, _, h1, h2, h3, h4 => hend w (.inr trivial) h1 h2 h3 h4
  | d :: ds, w, hn, hd, h1, h2, h3, h4 => by
    obtain ⟨D, rfl, hB, hD⟩ := hd d (by simp)
    obtain ⟨hn1, hn2⟩ := List.nodup_cons.1 hn
    refine ⟨by simp, .inl ⟨D, _, rfl, run_takeDeferred hD, ?_⟩⟩
    refine leaves_marks w1 hend ds _ hn2 (fun d' hd' => ?_) h1 h2 h3 ⟨by simp [World.putObj]; exact h4.1, fun b => ?_⟩
    · obtain ⟨D', rfl, hB', hD'⟩ := hd d' (by simp [hd'])
      exact ⟨D', rfl, hB', (World.putObj_heap_other (by rintro rfl; exact hn1 hd')).trans hD'⟩
    · by_cases e : b = D
      · subst e
        rcases h4.2 b with h5 | h5
        · exact .inr ⟨hB, h5 ▸ hD⟩
        · exact .inr h5
      · rcases h4.2 b with h5 | h5
        · exact .inl ((World.putObj_heap_other e).trans h5)
        · exact .inr h5
theorem hc_of_hw_m {g : FuncId} {fn : Func} {c : Code} {M : Nat} {args : List Value} {rs : List ResultVar} {R : Value → Heap → Prop}
    (hf : P.funcs[g]? = some fn) (hb : fn.body = some c) (hN : fn.ntmps = M) (hrs : fn.results = rs.toArray) (ha : Nat.ble args.length M = true)
    (h : HW P none (M, some H.size) c (retM P rs H.size R) (argf 0 args) H) : HC P g args H R := by
  intro w hw
  have ha' : args.length ≤ M := Nat.le_of_ble_eq_true ha
  have hfs : FS (M, some H.size) (argf 0 args) { tmps := args.toArray ++ Array.replicate (fn.ntmps - args.toArray.size) undef, defers := [] } H := by
    refine ⟨⟨List.nodup_nil, fun d hd => by cases hd⟩, by simp [hN]; omega, fun t v hl => ?_⟩
    obtain ⟨_, h2⟩ := lk_argf _ _ _ _ hl
    rw [Nat.sub_zero] at h2
    have ht : t < args.length := by
      rcases Nat.lt_or_ge t args.length with h3 | h3
      · exact h3
      · simp [List.getElem?_eq_none h3] at h2
    show (args.toArray ++ _)[t]? = _
    rw [Array.getElem?_append_left (by simpa using ht)]
    simpa using h2
  refine callsIn_wide.1 (callsIn_of_wp_marks (n := 0) hf hb trivial (wpIn_mono (F := Fr none) (h w _ w hfs hw (.refl _)) fun e a w' k => ?_))
  obtain ⟨k1, f', k2, k3⟩ := k
  have fin : (∀ G', Shut H.size w'.heap G' → ∃ vs, resAll P G' f' rs vs ∧ R (tup vs) G') →
      LeavesInM Fence.wide 0 P fn a.tmps (fun e w' => ∃ v, e = .returned v ∧ Env w w' ∧ R v w'.heap) a.defers .returning w' := fun k3 => by
    refine leaves_marks (B := H.size) w' (fun w2 _ e1 e2 e3 hs => ?_) a.defers w' k2.1.1 k2.1.2 rfl rfl ⟨rfl, Nat.le_refl _⟩ (.refl _ _)
    obtain ⟨vs, k4, k5⟩ := k3 w2.heap hs
    refine ⟨_, run_results (H := w'.heap) hrs k2 k4, _, rfl, ⟨e1.trans k1.tape, e2.trans k1.os, e3.1.trans k1.output, fun D o hd ho => ?_, Nat.le_trans k1.drawn e3.2⟩, k5⟩
    have hlt := (Array.getElem?_eq_some_iff.1 hd).1
    rcases hs.2 D with h6 | ⟨h6, _⟩
    · rw [h6]; exact k1.keep D o hd ho
    · rw [hw] at hlt; omega
  cases e with
  | normal => exact fin k3
  | ret => exact fin k3
  | exit id => exact k3.elim
  | goto l => exact k3.elim
  | panic ch => exact k3.elim
  | outgrown => exact k3.elim
theorem retm_i {rs : List ResultVar} {B : Nat} {R : Value → Heap → Prop} {G : Heap} (h : ∀ G', Shut B G G' → ∃ vs, resAll P G' f rs vs ∧ R (tup vs) G') : retM P rs B R .ret f G := h
end
end
end Go.Proofs.YtaopgjfioabfpaaGreat
