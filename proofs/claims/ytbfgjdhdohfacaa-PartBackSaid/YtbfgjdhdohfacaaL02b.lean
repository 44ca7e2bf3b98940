/- Walk of part.Parts. No condition. -/
import Derived.Test.YtbfgjdhdohfacaaL02
import Derived.Test.YtbfgjdhdohfacaaPlain02c
set_option linter.unusedVariables false
set_option linter.unusedSimpArgs false
namespace Go.Proofs.Ytbfgjdhdohfacaa
open Go.Proofs
theorem Parts_spec {v0 : Value} {l : List BSet} {S : Nat → Prop} {H : Heap} (hs : Sl fSet.rep H S v0 l) (hS : ∀ b, S b → b < H.size) : HC Try.prog 28 [v0] H (fun v H' => ∃ u, v = .tuple #[u, .int .i64 (if l.length ≤ 1024 then 0 else 2)] ∧ Ow fSet H' H.size 31 u (if l.length ≤ 1024 then parts l else []) ∧ Ext [] H H') := by
  have hx0 : Ext [] H H := Ext.refl _
  have hcap := hs.cap
  refine hc_of_hw (N := 62) (rs := [(.tmp 2), (.tmp 3)]) Try.func28 rfl rfl rfl rfl ?_
  refine hw_seq ?_
  refine hw_region ?_
  refine hl_v (v_assign rfl) rfl ?_
  refine hl_v (v_assign rfl) rfl ?_
  refine hl_nil ?_
  refine thenQ_n ?_
  refine hw_sub _ (ai_cons (t := 0) rfl ai_nil) ?_
  refine hw_seq ?_
  refine hw_seq ?_
  refine hw_region ?_
  refine hl_v (v_move rfl) rfl ?_
  refine hl_v (v_lenL rfl Try.underlying48 rfl (by first | assumption | exact Ow.sl0 (by assumption))) rfl ?_
  refine hl_v (v_gtr rfl rfl) rfl ?_
  refine hl_nil ?_
  refine thenQ_n ?_
  refine hw_sub _ (ai_cons (t := 0) rfl (ai_cons (t := 14) rfl ai_nil)) ?_
  refine hw_cond rfl (fun hc1 => ?_) (fun hc1 => ?_)
  · try simp only [decide_eq_true_eq, decide_eq_false_iff_not, Bool.and_eq_true, Bool.and_eq_false_iff, Bool.or_eq_true, Bool.or_eq_false_iff, Bool.not_eq_true', Bool.not_eq_false', Bool.not_eq_true, Bool.not_eq_false, beq_iff_eq, Int.not_lt, Int.not_le] at hc1
    refine hw_seq ?_
    refine hw_region ?_
    refine hl_v (v_assign rfl) rfl ?_
    refine hl_v (v_assign rfl) rfl ?_
    refine hl_nil ?_
    refine thenQ_n ?_
    refine hw_sub _ (ai_cons (t := 2) rfl (ai_cons (t := 3) rfl ai_nil)) ?_
    refine hw_ret ?_
    refine thenQ_r ?_
    refine ret_i _ (ra_t rfl (ra_t rfl ra_nil)) ?_
    rw [if_neg (show ¬ l.length ≤ 1024 by omega), if_neg (show ¬ l.length ≤ 1024 by omega)]
    exact ⟨_, rfl, Ow.nil, hx0⟩
  · try simp only [decide_eq_true_eq, decide_eq_false_iff_not, Bool.and_eq_true, Bool.and_eq_false_iff, Bool.or_eq_true, Bool.or_eq_false_iff, Bool.not_eq_true', Bool.not_eq_false', Bool.not_eq_true, Bool.not_eq_false, beq_iff_eq, Int.not_lt, Int.not_le] at hc1
    refine hw_skip ?_
    refine thenQ_n ?_
    refine hw_seq ?_
    refine hw_region ?_
    refine hl_h (h_makeMap (ke := str) (ve := (fun n : Int => Value.int .i64 n))) rfl ?_
    rintro _ H2 ⟨rfl, n3x, n3s, n3m⟩
    replace hx0 := Ext.trans hx0 n3x
    replace hs := Sl.ext0 hs n3x
    refine hl_v (v_assign rfl) rfl ?_
    refine hl_nil ?_
    refine thenQ_n ?_
    refine hw_sub _ (ai_cons (t := 0) rfl (ai_cons (t := 4) rfl ai_nil)) ?_
    refine hw_seq ?_
    refine hw_region ?_
    refine hl_h (h_makeSlice (g := fNat) (d := default) (B := H2.size) Try.underlying51 Try.type3 rfl rfl rfl (by decide) rfl rfl (by first | omega | assumption | (simp only [Int.toNat_natCast]; omega) | (simp; done) | (simp at *; omega)) (by first | omega | assumption | (simp only [Int.toNat_natCast]; omega) | (simp; done) | (simp at *; omega)) (by rw [show Try.t3.bytes = 8 from rfl]; (first | omega | assumption | (simp only [Int.toNat_natCast]; omega) | (simp; done) | (simp at *; omega))) (by first | omega | assumption | (simp only [Int.toNat_natCast]; omega) | (simp; done) | (simp at *; omega))) rfl ?_
    rintro _ H4 ⟨rfl, n5o, n5x, n5s⟩
    replace hx0 := Ext.trans hx0 n5x
    replace hs := Sl.ext0 hs n5x
    replace n3m := Mp.ext n5x n3m (by simp)
    refine hl_v (v_assign rfl) rfl ?_
    refine hl_nil ?_
    refine thenQ_n ?_
    refine hw_sub _ (ai_cons (t := 0) rfl (ai_cons (t := 4) rfl (ai_cons (t := 5) rfl ai_nil))) ?_
    refine hw_seq ?_
    refine hw_seq ?_
    refine hw_region ?_
    refine hl_v (v_move rfl) rfl ?_
    refine hl_nil ?_
    refine thenQ_n ?_
    refine hw_sub _ (ai_cons (t := 0) rfl (ai_cons (t := 4) rfl (ai_cons (t := 5) rfl (ai_cons (t := 17) rfl ai_nil)))) ?_
    refine hw_block ?_
    refine hw_loop (α := Nat) [(0, _), (4, _), (5, _)] (fun b => [(17, .int .i64 (b : Int))]) (fun b G6 => Ext [] H G6 ∧ Sl fSet.rep G6 S v0 l ∧ Mp str (fun n : Int => Value.int .i64 n) G6 H.size (plK l b) ∧ Ow fNat G6 H2.size 3 (.slice (some ⟨H2.size, 0, none⟩) (256 : Int).toNat (256 : Int).toNat) (clsTo l b) ∧ H2.size < G6.size ∧ b ≤ 256) (fun b => 256 - b) 0 (ai_cons (t := 17) rfl (ai_cons (t := 0) rfl (ai_cons (t := 4) rfl (ai_cons (t := 5) rfl ai_nil)))) ?_ ?_
    · exact ⟨hx0, hs, n3m, (n5o.congr (clsTo_zero l)), (by omega), Nat.zero_le _⟩
    · intro b G6 hI
      obtain ⟨hx0, hs, n3m, n5o, hz, hb⟩ := hI
      have hx0z := hx0.size
      have hfl := firsts_len_le l b
      have hcl0 := clsTo_len l b
      refine hw_seq ?_
      refine hw_region ?_
      refine hl_v (v_lss rfl rfl) rfl ?_
      refine hl_nil ?_
      refine thenQ_n ?_
      refine hw_sub _ (ai_cons (t := 0) rfl (ai_cons (t := 4) rfl (ai_cons (t := 5) rfl (ai_cons (t := 17) rfl (ai_cons (t := 18) rfl ai_nil))))) ?_
      refine hw_seq ?_
      refine hw_cond rfl (fun hc6 => ?_) (fun hc6 => ?_)
      · try simp only [decide_eq_true_eq, decide_eq_false_iff_not, Bool.and_eq_true, Bool.and_eq_false_iff, Bool.or_eq_true, Bool.or_eq_false_iff, Bool.not_eq_true', Bool.not_eq_false', Bool.not_eq_true, Bool.not_eq_false, beq_iff_eq, Int.not_lt, Int.not_le] at hc6
        refine hw_skip ?_
        refine thenQ_n ?_
        refine hw_seq ?_
        refine hw_block ?_
        refine hw_seq ?_
        refine hw_region ?_
        refine hl_v (v_move rfl) rfl ?_
        refine hl_v (v_assign rfl) rfl ?_
        refine hl_nil ?_
        refine thenQ_n ?_
        refine hw_sub _ (ai_cons (t := 0) rfl (ai_cons (t := 4) rfl (ai_cons (t := 5) rfl (ai_cons (t := 6) rfl (ai_cons (t := 17) rfl ai_nil))))) ?_
        refine hw_seq ?_
        refine hw_region ?_
        refine hl_v (v_move rfl) rfl ?_
        refine hl_v (v_lenL rfl Try.underlying48 rfl (by first | assumption | exact Ow.sl0 (by assumption))) rfl ?_
        refine hl_h (h_makeSlice (g := fByte) (d := default) (B := G6.size) Try.underlying28 Try.type5 rfl rfl rfl (by decide) rfl rfl (by first | omega | assumption | (simp only [Int.toNat_natCast]; omega) | (simp; done) | (simp at *; omega)) (by first | omega | assumption | (simp only [Int.toNat_natCast]; omega) | (simp; done) | (simp at *; omega)) (by rw [show Try.t5.bytes = 1 from rfl]; (first | omega | assumption | (simp only [Int.toNat_natCast]; omega) | (simp; done) | (simp at *; omega))) (by first | omega | assumption | (simp only [Int.toNat_natCast]; omega) | (simp; done) | (simp at *; omega))) rfl ?_
        rintro _ H7 ⟨rfl, n8o, n8x, n8s⟩
        replace hx0 := Ext.trans hx0 n8x
        replace hs := Sl.ext0 hs n8x
        replace n3m := Mp.ext n8x n3m (by simp)
        replace n5o := Ow.ext0 n5o n8x
        refine hl_v (v_assign rfl) rfl ?_
        refine hl_nil ?_
        refine thenQ_n ?_
        refine hw_sub _ (ai_cons (t := 0) rfl (ai_cons (t := 4) rfl (ai_cons (t := 5) rfl (ai_cons (t := 6) rfl (ai_cons (t := 7) rfl (ai_cons (t := 17) rfl ai_nil)))))) ?_
        refine hw_seq ?_
        refine hw_seq ?_
        refine hw_region ?_
        refine hl_v (v_move rfl) rfl ?_
        refine hl_v (v_lenL rfl Try.underlying48 rfl (by first | assumption | exact Ow.sl0 (by assumption))) rfl ?_
        refine hl_v (v_move rfl) rfl ?_
        refine hl_nil ?_
        refine thenQ_n ?_
        refine hw_sub _ (ai_cons (t := 0) rfl (ai_cons (t := 4) rfl (ai_cons (t := 5) rfl (ai_cons (t := 6) rfl (ai_cons (t := 7) rfl (ai_cons (t := 17) rfl (ai_cons (t := 23) rfl (ai_cons (t := 24) rfl (ai_cons (t := 25) rfl ai_nil))))))))) ?_
        refine hw_block ?_
        refine hw_loop (α := Nat) [(0, _), (4, _), (5, _), (6, _), (7, _), (17, _), (23, _), (24, _)] (fun i => [(25, .int .i64 (i : Int))]) (fun i G10 => Ext [] H G10 ∧ Sl fSet.rep G10 S v0 l ∧ Mp str (fun n : Int => Value.int .i64 n) G10 H.size (plK l b) ∧ Ow fNat G10 H2.size 3 (.slice (some ⟨H2.size, 0, none⟩) (256 : Int).toNat (256 : Int).toNat) (clsTo l b) ∧ Ow fByte G10 G6.size 5 (.slice (some ⟨G6.size, 0, none⟩) (l.length : Int).toNat (l.length : Int).toNat) (signTo l b i) ∧ H2.size < G6.size ∧ G6.size < G10.size ∧ i ≤ l.length) (fun i => l.length - i) 0 (ai_cons (t := 25) rfl (ai_cons (t := 0) rfl (ai_cons (t := 4) rfl (ai_cons (t := 5) rfl (ai_cons (t := 6) rfl (ai_cons (t := 7) rfl (ai_cons (t := 17) rfl (ai_cons (t := 23) rfl (ai_cons (t := 24) rfl ai_nil))))))))) ?_ ?_
        · exact ⟨hx0, hs, n3m, n5o, (n8o.congr (signTo_zero l b).symm), hz, (by omega), Nat.zero_le _⟩
        · intro i G10 hI
          obtain ⟨hx0, hs, n3m, n5o, sg, hz, hz2, hi⟩ := hI
          have hx0z := hx0.size
          have hsl := signTo_len l b hi
          refine hw_seq ?_
          refine hw_region ?_
          refine hl_v (v_lss rfl rfl) rfl ?_
          refine hl_nil ?_
          refine thenQ_n ?_
          refine hw_sub _ (ai_cons (t := 0) rfl (ai_cons (t := 4) rfl (ai_cons (t := 5) rfl (ai_cons (t := 6) rfl (ai_cons (t := 7) rfl (ai_cons (t := 17) rfl (ai_cons (t := 23) rfl (ai_cons (t := 24) rfl (ai_cons (t := 25) rfl (ai_cons (t := 26) rfl ai_nil)))))))))) ?_
          refine hw_seq ?_
          refine hw_cond rfl (fun hc9 => ?_) (fun hc9 => ?_)
          · try simp only [decide_eq_true_eq, decide_eq_false_iff_not, Bool.and_eq_true, Bool.and_eq_false_iff, Bool.or_eq_true, Bool.or_eq_false_iff, Bool.not_eq_true', Bool.not_eq_false', Bool.not_eq_true, Bool.not_eq_false, beq_iff_eq, Int.not_lt, Int.not_le] at hc9
            refine hw_skip ?_
            refine thenQ_n ?_
            refine hw_seq ?_
            refine hw_block ?_
            refine hw_seq ?_
            refine hw_region ?_
            refine hl_v (v_move rfl) rfl ?_
            refine hl_v (v_ixL Try.underlying48 Try.sizeOf31 rfl rfl (by first | assumption | exact Ow.sl0 (by assumption)) (by first | omega | assumption | (simp only [Int.toNat_natCast]; omega) | (simp; done) | (simp at *; omega))) rfl ?_
            refine hl_v (v_loadFl Try.isAgg31 Try.sizeOf31 rfl (by first | assumption | exact Ow.sl0 (by assumption)) rfl (by first | omega | assumption | (simp only [Int.toNat_natCast]; omega) | (simp; done) | (simp at *; omega))) rfl ?_
            refine hl_h (h_allocS Try.zeroValue31) rfl ?_
            rintro _ H10 ⟨rfl, n11⟩
            have n11s := n11.size
            replace hx0 := Ext.trans hx0 n11.ext
            replace hs := Sl.ext0 hs n11.ext
            replace n3m := Mp.ext n11.ext n3m (by simp)
            replace n5o := Ow.ext0 n5o n11.ext
            replace sg := Ow.ext0 sg n11.ext
            have n11b := n11.blk
            refine hl_v (v_assign rfl) rfl ?_
            refine hl_s (h_storeS Try.sizeOf31 rfl rfl n11b) ?_
            rintro _ H12 p13
            have p13s := p13.size
            replace hx0 := Ext.fresh hx0 p13.ext (by intro b hb; simp at hb; omega)
            replace hs := Sl.ext hs p13.ext (by intro b hb; (try have hSb := hS b hb); (try simp only [mb, List.mem_singleton] at hb); simp; omega)
            replace n3m := Mp.ext p13.ext n3m (by (try simp only [mb, List.mem_singleton] at hb); simp; omega)
            replace n5o := Ow.ext n5o p13.ext (by intro b hb; have hlb := Ow.lt n5o b hb; (try simp only [mb, List.mem_singleton] at hb); simp; omega)
            replace sg := Ow.ext sg p13.ext (by intro b hb; have hlb := Ow.lt sg b hb; (try simp only [mb, List.mem_singleton] at hb); simp; omega)
            replace n11b := p13.blk
            refine hl_nil ?_
            refine thenQ_n ?_
            refine hw_sub _ (ai_cons (t := 0) rfl (ai_cons (t := 4) rfl (ai_cons (t := 5) rfl (ai_cons (t := 6) rfl (ai_cons (t := 7) rfl (ai_cons (t := 8) rfl (ai_cons (t := 9) rfl (ai_cons (t := 17) rfl (ai_cons (t := 23) rfl (ai_cons (t := 24) rfl (ai_cons (t := 25) rfl ai_nil))))))))))) ?_
            refine hw_seq ?_
            refine hw_region ?_
            refine hl_v (v_loadS Try.isAgg31 Try.sizeOf31 rfl (by first | exact n11b | assumption)) rfl ?_
            refine hl_v (v_move rfl) rfl ?_
            refine hl_v (v_toB (by rw [Try.underlying3]; rfl) Try.underlying5 rfl (by first | omega | assumption | (simp only [Int.toNat_natCast]; omega) | (simp; done) | (simp at *; omega))) rfl ?_
            refine hl_h (h_call Try.call22 (evs_cons rfl (evs_cons rfl evs_nil)) (Has_spec)) rfl ?_
            rintro _ H14 ⟨rfl, n15⟩
            have n15s := n15.size
            replace hx0 := Ext.trans hx0 n15
            replace hs := Sl.ext0 hs n15
            replace n3m := Mp.ext n15 n3m (by simp)
            replace n5o := Ow.ext0 n5o n15
            replace sg := Ow.ext0 sg n15
            replace n11b := Ext.blk n15 n11b (by simp)
            refine hl_nil ?_
            refine thenQ_n ?_
            refine hw_sub _ (ai_cons (t := 0) rfl (ai_cons (t := 4) rfl (ai_cons (t := 5) rfl (ai_cons (t := 6) rfl (ai_cons (t := 7) rfl (ai_cons (t := 8) rfl (ai_cons (t := 17) rfl (ai_cons (t := 23) rfl (ai_cons (t := 24) rfl (ai_cons (t := 25) rfl (ai_cons (t := 33) rfl ai_nil))))))))))) ?_
            refine hw_cond rfl (fun hc16 => ?_) (fun hc16 => ?_)
            · try simp only [decide_eq_true_eq, decide_eq_false_iff_not, Bool.and_eq_true, Bool.and_eq_false_iff, Bool.or_eq_true, Bool.or_eq_false_iff, Bool.not_eq_true', Bool.not_eq_false', Bool.not_eq_true, Bool.not_eq_false, beq_iff_eq, Int.not_lt, Int.not_le] at hc16
              rw [show (UInt8.ofNat (b : Int).toNat).toNat = b by rw [UInt8.toNat_ofNat']; simp only [Int.toNat_natCast]; omega] at hc16
              refine hw_region ?_
              refine hl_v (v_move rfl) rfl ?_
              refine hl_v (v_move rfl) rfl ?_
              refine hl_v (v_ixL Try.underlying28 Try.sizeOf5 rfl rfl (by first | assumption | exact Ow.sl0 (by assumption)) (by first | omega | assumption | (simp only [Int.toNat_natCast]; omega) | (simp; done) | (simp at *; omega))) rfl ?_
              refine hl_s (h_storeOw1 Try.sizeOf5 rfl rfl rfl (show _ = some (Value.int .u8 (((1 : UInt8).toNat : Nat) : Int)) from rfl) sg (by first | omega | assumption | (simp only [Int.toNat_natCast]; omega) | (simp; done) | (simp at *; omega)) rfl rfl) ?_
              rintro _ H17 p18
              have p18s := p18.size
              replace hx0 := Ext.fresh hx0 p18.ext (by intro b hb; exact Or.inl (Nat.le_trans (by omega) (Ow.lt sg b hb).1))
              replace hs := Sl.ext hs p18.ext (by intro b hb; (try have hSb := hS b hb); intro hm; have hlt := Ow.lt sg _ hm; (try simp only [mb, List.mem_singleton] at hb); (try simp only [mb, List.mem_singleton] at hm); omega)
              replace n3m := Mp.ext p18.ext n3m (by intro hm; have hlt := Ow.lt sg _ hm; (try simp only [mb, List.mem_singleton] at hb); (try simp only [mb, List.mem_singleton] at hm); omega)
              replace n5o := Ow.ext n5o p18.ext (by intro b hb; have hlb := Ow.lt n5o b hb; intro hm; have hlt := Ow.lt sg _ hm; (try simp only [mb, List.mem_singleton] at hb); (try simp only [mb, List.mem_singleton] at hm); omega)
              replace n11b := Ext.blk p18.ext n11b (by intro hm; have hlt := Ow.lt sg _ hm; (try simp only [mb, List.mem_singleton] at hb); (try simp only [mb, List.mem_singleton] at hm); omega)
              replace sg := p18.ow
              refine hl_nil ?_
              refine blockQ_n ?_
              refine thenQ_n ?_
              refine hw_region ?_
              refine hl_v (v_add rfl rfl (by first | omega | assumption | (simp only [Int.toNat_natCast]; omega) | (simp; done) | (simp at *; omega))) rfl ?_
              refine hl_v (v_move rfl) rfl ?_
              refine hl_nil ?_
              refine thenQ_n ?_
              refine ⟨i + 1, (ai_cons (t := 25) rfl (ai_cons (t := 0) rfl (ai_cons (t := 4) rfl (ai_cons (t := 5) rfl (ai_cons (t := 6) rfl (ai_cons (t := 7) rfl (ai_cons (t := 17) rfl (ai_cons (t := 23) rfl (ai_cons (t := 24) rfl ai_nil))))))))), ?_, ?_⟩
              · skip
                exact ⟨hx0, hs, n3m, n5o, (sg.congr (sg_yes (by omega) (show hasN l b i = true from by assumption))), hz, (by omega), by omega⟩
              · omega
            · try simp only [decide_eq_true_eq, decide_eq_false_iff_not, Bool.and_eq_true, Bool.and_eq_false_iff, Bool.or_eq_true, Bool.or_eq_false_iff, Bool.not_eq_true', Bool.not_eq_false', Bool.not_eq_true, Bool.not_eq_false, beq_iff_eq, Int.not_lt, Int.not_le] at hc16
              rw [show (UInt8.ofNat (b : Int).toNat).toNat = b by rw [UInt8.toNat_ofNat']; simp only [Int.toNat_natCast]; omega] at hc16
              refine hw_skip ?_
              refine blockQ_n ?_
              refine thenQ_n ?_
              refine hw_region ?_
              refine hl_v (v_add rfl rfl (by first | omega | assumption | (simp only [Int.toNat_natCast]; omega) | (simp; done) | (simp at *; omega))) rfl ?_
              refine hl_v (v_move rfl) rfl ?_
              refine hl_nil ?_
              refine thenQ_n ?_
              refine ⟨i + 1, (ai_cons (t := 25) rfl (ai_cons (t := 0) rfl (ai_cons (t := 4) rfl (ai_cons (t := 5) rfl (ai_cons (t := 6) rfl (ai_cons (t := 7) rfl (ai_cons (t := 17) rfl (ai_cons (t := 23) rfl (ai_cons (t := 24) rfl ai_nil))))))))), ?_, ?_⟩
              · skip
                exact ⟨hx0, hs, n3m, n5o, (sg.congr (sg_no (by omega) (show hasN l b i = false from by assumption))), hz, (by omega), by omega⟩
              · omega
          · try simp only [decide_eq_true_eq, decide_eq_false_iff_not, Bool.and_eq_true, Bool.and_eq_false_iff, Bool.or_eq_true, Bool.or_eq_false_iff, Bool.not_eq_true', Bool.not_eq_false', Bool.not_eq_true, Bool.not_eq_false, beq_iff_eq, Int.not_lt, Int.not_le] at hc9
            refine hw_exit ?_
            refine thenQ_e ?_
            refine thenQ_e ?_
            refine blockQ_hit ?_
            refine thenQ_n ?_
            refine hw_seq ?_
            have hi6 : i = l.length := by omega
            rw [hi6, signTo_all] at sg
            refine hw_region ?_
            refine hl_v (v_move rfl) rfl ?_
            refine hl_v (v_move rfl) rfl ?_
            refine hl_v (v_bytesStr Try.underlying28 Try.underlying5 Try.underlying9 rfl (by first | assumption | exact Ow.sl0 (by assumption))) rfl ?_
            refine hl_v (OpV.val (v_lookup2 (keyStr Try.underlying9) rfl Try.underlying81 Try.zeroValue3 rfl rfl n3m) (by rw [(look_sign l b).1, (look_sign l b).2])) rfl ?_
            refine hl_v (v_move rfl) rfl ?_
            refine hl_v (v_extract rfl rfl) rfl ?_
            refine hl_v (v_extract rfl rfl) rfl ?_
            refine hl_v (v_assign rfl) rfl ?_
            refine hl_v (v_assign rfl) rfl ?_
            refine hl_nil ?_
            refine thenQ_n ?_
            refine hw_sub _ (ai_cons (t := 0) rfl (ai_cons (t := 4) rfl (ai_cons (t := 5) rfl (ai_cons (t := 6) rfl (ai_cons (t := 7) rfl (ai_cons (t := 10) rfl (ai_cons (t := 11) rfl (ai_cons (t := 17) rfl ai_nil)))))))) ?_
            refine hw_seq ?_
            refine hw_seq ?_
            refine hw_region ?_
            refine hl_v (v_move rfl) rfl ?_
            refine hl_v (v_not rfl) rfl ?_
            refine hl_nil ?_
            refine thenQ_n ?_
            refine hw_sub _ (ai_cons (t := 0) rfl (ai_cons (t := 4) rfl (ai_cons (t := 5) rfl (ai_cons (t := 6) rfl (ai_cons (t := 7) rfl (ai_cons (t := 10) rfl (ai_cons (t := 17) rfl (ai_cons (t := 46) rfl ai_nil)))))))) ?_
            refine hw_cond rfl (fun hc19 => ?_) (fun hc19 => ?_)
            · try simp only [decide_eq_true_eq, decide_eq_false_iff_not, Bool.and_eq_true, Bool.and_eq_false_iff, Bool.or_eq_true, Bool.or_eq_false_iff, Bool.not_eq_true', Bool.not_eq_false', Bool.not_eq_true, Bool.not_eq_false, beq_iff_eq, Int.not_lt, Int.not_le] at hc19
              refine hw_seq ?_
              refine hw_region ?_
              refine hl_v (v_move rfl) rfl ?_
              refine hl_v (v_lenM rfl Try.underlying81 rfl n3m) rfl ?_
              refine hl_v (v_assign rfl) rfl ?_
              refine hl_nil ?_
              refine thenQ_n ?_
              refine hw_sub _ (ai_cons (t := 0) rfl (ai_cons (t := 4) rfl (ai_cons (t := 5) rfl (ai_cons (t := 6) rfl (ai_cons (t := 7) rfl (ai_cons (t := 10) rfl (ai_cons (t := 17) rfl ai_nil))))))) ?_
              refine hw_region ?_
              refine hl_v (v_move rfl) rfl ?_
              refine hl_v (v_move rfl) rfl ?_
              refine hl_v (v_bytesStr Try.underlying28 Try.underlying5 Try.underlying9 rfl (by first | assumption | exact Ow.sl0 (by assumption))) rfl ?_
              refine hl_v (v_move rfl) rfl ?_
              refine hl_s (h_mapUpdate (keyStr Try.underlying9) rfl Try.underlying81 rfl rfl rfl n3m) ?_
              rintro _ H20 p21
              have p21s := p21.size
              replace hx0 := Ext.fresh hx0 p21.ext (by intro b hb; simp at hb; omega)
              replace hs := Sl.ext hs p21.ext (by intro b hb; (try have hSb := hS b hb); (try simp only [mb, List.mem_singleton] at hb); simp; omega)
              replace n5o := Ow.ext n5o p21.ext (by intro b hb; have hlb := Ow.lt n5o b hb; (try simp only [mb, List.mem_singleton] at hb); simp; omega)
              replace sg := Ow.ext sg p21.ext (by intro b hb; have hlb := Ow.lt sg b hb; (try simp only [mb, List.mem_singleton] at hb); simp; omega)
              replace n3m := p21.mp
              refine hl_nil ?_
              refine thenQ_n ?_
              refine hw_sub _ (ai_cons (t := 0) rfl (ai_cons (t := 4) rfl (ai_cons (t := 5) rfl (ai_cons (t := 6) rfl (ai_cons (t := 10) rfl (ai_cons (t := 17) rfl ai_nil)))))) ?_
              refine hw_region ?_
              refine hl_v (v_move rfl) rfl ?_
              refine hl_v (v_move rfl) rfl ?_
              refine hl_v (v_move rfl) rfl ?_
              refine hl_v (v_ixL Try.underlying51 Try.sizeOf3 rfl rfl (by first | assumption | exact Ow.sl0 (by assumption)) (by first | omega | assumption | (simp only [Int.toNat_natCast]; omega) | (simp; done) | (simp at *; omega))) rfl ?_
              refine hl_s (h_storeOw1 Try.sizeOf3 rfl rfl rfl rfl n5o (by first | omega | assumption | (simp only [Int.toNat_natCast]; omega) | (simp; done) | (simp at *; omega)) rfl rfl) ?_
              rintro _ H22 p23
              have p23s := p23.size
              replace hx0 := Ext.fresh hx0 p23.ext (by intro b hb; exact Or.inl (Nat.le_trans (by omega) (Ow.lt n5o b hb).1))
              replace hs := Sl.ext hs p23.ext (by intro b hb; (try have hSb := hS b hb); intro hm; have hlt := Ow.lt n5o _ hm; (try simp only [mb, List.mem_singleton] at hb); (try simp only [mb, List.mem_singleton] at hm); omega)
              replace sg := Ow.ext sg p23.ext (by intro b hb; have hlb := Ow.lt sg b hb; intro hm; have hlt := Ow.lt n5o _ hm; (try simp only [mb, List.mem_singleton] at hb); (try simp only [mb, List.mem_singleton] at hm); omega)
              replace n3m := Mp.ext p23.ext n3m (by intro hm; have hlt := Ow.lt n5o _ hm; (try simp only [mb, List.mem_singleton] at hb); (try simp only [mb, List.mem_singleton] at hm); omega)
              replace n5o := p23.ow
              refine hl_nil ?_
              refine blockQ_n ?_
              refine thenQ_n ?_
              refine hw_region ?_
              refine hl_v (v_add rfl rfl (by first | omega | assumption | (simp only [Int.toNat_natCast]; omega) | (simp; done) | (simp at *; omega))) rfl ?_
              refine hl_v (v_move rfl) rfl ?_
              refine hl_nil ?_
              refine thenQ_n ?_
              refine ⟨b + 1, (ai_cons (t := 17) rfl (ai_cons (t := 0) rfl (ai_cons (t := 4) rfl (ai_cons (t := 5) rfl ai_nil)))), ?_, ?_⟩
              · skip
                exact ⟨hx0, hs, (by rw [put_new hc19] at n3m; exact n3m), (n5o.congr (clsTo_set (len_new hc19))), (by omega), by omega⟩
              · omega
            · try simp only [decide_eq_true_eq, decide_eq_false_iff_not, Bool.and_eq_true, Bool.and_eq_false_iff, Bool.or_eq_true, Bool.or_eq_false_iff, Bool.not_eq_true', Bool.not_eq_false', Bool.not_eq_true, Bool.not_eq_false, beq_iff_eq, Int.not_lt, Int.not_le] at hc19
              refine hw_skip ?_
              refine thenQ_n ?_
              refine hw_region ?_
              refine hl_v (v_move rfl) rfl ?_
              refine hl_v (v_move rfl) rfl ?_
              refine hl_v (v_move rfl) rfl ?_
              refine hl_v (v_ixL Try.underlying51 Try.sizeOf3 rfl rfl (by first | assumption | exact Ow.sl0 (by assumption)) (by first | omega | assumption | (simp only [Int.toNat_natCast]; omega) | (simp; done) | (simp at *; omega))) rfl ?_
              refine hl_s (h_storeOw1 Try.sizeOf3 rfl rfl rfl rfl n5o (by first | omega | assumption | (simp only [Int.toNat_natCast]; omega) | (simp; done) | (simp at *; omega)) rfl rfl) ?_
              rintro _ H24 p25
              have p25s := p25.size
              replace hx0 := Ext.fresh hx0 p25.ext (by intro b hb; exact Or.inl (Nat.le_trans (by omega) (Ow.lt n5o b hb).1))
              replace hs := Sl.ext hs p25.ext (by intro b hb; (try have hSb := hS b hb); intro hm; have hlt := Ow.lt n5o _ hm; (try simp only [mb, List.mem_singleton] at hb); (try simp only [mb, List.mem_singleton] at hm); omega)
              replace n3m := Mp.ext p25.ext n3m (by intro hm; have hlt := Ow.lt n5o _ hm; (try simp only [mb, List.mem_singleton] at hb); (try simp only [mb, List.mem_singleton] at hm); omega)
              replace sg := Ow.ext sg p25.ext (by intro b hb; have hlb := Ow.lt sg b hb; intro hm; have hlt := Ow.lt n5o _ hm; (try simp only [mb, List.mem_singleton] at hb); (try simp only [mb, List.mem_singleton] at hm); omega)
              replace n5o := p25.ow
              refine hl_nil ?_
              refine blockQ_n ?_
              refine thenQ_n ?_
              refine hw_region ?_
              refine hl_v (v_add rfl rfl (by first | omega | assumption | (simp only [Int.toNat_natCast]; omega) | (simp; done) | (simp at *; omega))) rfl ?_
              refine hl_v (v_move rfl) rfl ?_
              refine hl_nil ?_
              refine thenQ_n ?_
              refine ⟨b + 1, (ai_cons (t := 17) rfl (ai_cons (t := 0) rfl (ai_cons (t := 4) rfl (ai_cons (t := 5) rfl ai_nil)))), ?_, ?_⟩
              · skip
                exact ⟨hx0, hs, (put_old hc19 ▸ n3m), (n5o.congr (clsTo_set (atv_old hc19))), (by omega), by omega⟩
              · omega
      · try simp only [decide_eq_true_eq, decide_eq_false_iff_not, Bool.and_eq_true, Bool.and_eq_false_iff, Bool.or_eq_true, Bool.or_eq_false_iff, Bool.not_eq_true', Bool.not_eq_false', Bool.not_eq_true, Bool.not_eq_false, beq_iff_eq, Int.not_lt, Int.not_le] at hc6
        refine hw_exit ?_
        refine thenQ_e ?_
        refine thenQ_e ?_
        refine blockQ_hit ?_
        refine thenQ_n ?_
        refine hw_seq ?_
        have hb6 : b = 256 := by omega
        have hci := n5o.toInt
        rw [hb6, cls_eq] at hci
        refine hw_region ?_
        refine hl_v (v_move rfl) rfl ?_
        refine hl_h (h_call Try.call44 (evs_cons rfl evs_nil) (Sets_spec (by first | assumption | exact Ow.sl0 (by assumption)) (by first | assumption | exact fun _ h => h | exact fun b hb => (Ow.lt (by assumption) b hb).2 | (intro b hb; have hSb := hS b hb; omega)))) rfl ?_
        rintro _ H26 ⟨n27u, rfl, n27o, n27⟩
        have n27s := n27.size
        replace hx0 := Ext.trans hx0 n27
        replace hs := Sl.ext0 hs n27
        replace n3m := Mp.ext n27 n3m (by simp)
        replace n5o := Ow.ext0 n5o n27
        refine hl_v (v_extract rfl rfl) rfl ?_
        refine hl_v (v_extract rfl rfl) rfl ?_
        refine hl_v (v_assign rfl) rfl ?_
        refine hl_v (v_assign rfl) rfl ?_
        refine hl_nil ?_
        refine thenQ_n ?_
        refine hw_sub _ (ai_cons (t := 2) rfl (ai_cons (t := 3) rfl ai_nil)) ?_
        refine hw_ret ?_
        refine ret_i _ (ra_t rfl (ra_t rfl ra_nil)) ?_
        rw [if_pos (show l.length ≤ 1024 by omega), if_pos (show l.length ≤ 1024 by omega)]
        rw [okB_cls] at n27o ⊢
        exact ⟨_, rfl, n27o.base (by omega), hx0⟩

end Go.Proofs.Ytbfgjdhdohfacaa
