/- Guarded operations that make things. No condition. -/
import Derived.Test.YtbaciogbhjcdoaaSep4
set_option linter.unusedSimpArgs false
set_option linter.unusedVariables false
namespace Go.Proofs.Ytbaciogbhjcdoaa
section
variable {P : Program} {r : Option Nat} {N : Sz} {Q : Post} {f : Frm} {H : Heap} {l0 rest : List Oper} {d : Nat} {op : Op} {ty : TypeId} {p : String} {af : Array Edge} {j : Nat} {want : Bool}
theorem hl_gm {vg : Value} {dj : Nat} {R : Value → Heap → Prop} (hj : gslot l0 j = some dj) (hv : lk f dj = some vg) (h : gb vg want = true → OpH P N op ty f H R) (h0 : gb vg want = false → ∃ v, R v H) (hd : Nat.blt d N.1 = true)
    (k : ∀ v H', R v H' → HL P r N l0 rest Q ((d, gv (gb vg want) v) :: f) H') : HL P r N l0 (⟨some d, op, ty, p, af, some (j, want)⟩ :: rest) Q f H := by
  cases hc : gb vg want with
  | false =>
    obtain ⟨v, hR⟩ := h0 hc
    refine hl_gf hj hv hc hd ?_
    have := k v H hR
    rwa [hc] at this
  | true =>
    refine hl_gh hj hv hc (h hc) hd ?_
    intro v' H' hR
    have := k v' H' hR
    rwa [hc] at this
end
section
variable {P : Program} {N : Nat} {Q : Frm → Heap → Prop} {f : Frm} {H : Heap} {St : Heap → Prop} {l0 : List Oper} {rest : Tr} {d : Nat} {op : Op} {ty : TypeId} {p : String} {af : Array Edge} {j : Nat} {want : Bool}
theorem hd_gm {vg : Value} {dj : Nat} {R : Value → Heap → Prop} (hj : gslot l0 j = some dj) (hv : lk f dj = some vg) (h : gb vg want = true → OpH P (N, none) op ty f H R) (h0 : gb vg want = false → ∃ v, R v H) (hS : ∀ v H', R v H' → St H') (hd : Nat.blt d N = true)
    (k : ∀ v H', R v H' → HD P N l0 St rest Q ((d, gv (gb vg want) v) :: f) H') : HD P N l0 St (.step true ⟨some d, op, ty, p, af, some (j, want)⟩ rest) Q f H := by
  intro w0 a w h1 h2 h3
  show if _ then _ else _
  rw [wanted_of h1 hj hv]
  cases hc : gb vg want
  · rw [if_neg (by simp)]
    obtain ⟨v, hR⟩ := h0 hc
    have := k v H hR
    rw [hc] at this
    exact this w0 _ w ((h1.put (N := (N, none)) (blt_lt hd) _).any) h2 h3
  · rw [if_pos rfl]
    refine (h hc).wp h1 h2 h3 fun v' w' h4 h6 => ?_
    have := k _ _ h6
    rw [hc] at this
    exact ⟨hS _ _ h6, this w0 _ _ ((h1.put (N := (N, none)) (blt_lt hd) _).any) rfl h4⟩
end
theorem gb_boolf {b want : Bool} (h : gb (.bool b) want = false) : ¬ b = want := by simpa [gb] using h
/-- a region whose orders meet again: what stands behind it -/
theorem hw_hj {P : Program} {r : Option Nat} {N : Sz} {Q : Post} {f : Frm} {H : Heap} {c : Code} (K : Frm → Heap → Prop) (h : HW P r N c (fun e f' H' => e = .normal ∧ K f' H') f H) (k : ∀ f' H', K f' H' → Q .normal f' H') : HW P r N c Q f H :=
  hw_mono h fun e f' H' hk => by obtain ⟨he, hk⟩ := hk; subst he; exact k f' H' hk
end Go.Proofs.Ytbaciogbhjcdoaa
