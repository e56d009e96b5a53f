/- The law of layer 7: SolveOther. -/
import Derived.Test.YtdcjionaedcfoaaLawS2
import Derived.Test.YtdcjionaedcfoaaSolve14
import Derived.Test.YtdcjionaedcfoaaOthP
set_option linter.unusedVariables false
set_option linter.unusedSimpArgs false
namespace Go.Proofs.Ytdcjionaedcfoaa.LawS
open Go.RowKit Go.Proofs.Ytdcjionaedcfoaa.L Go.Proofs.Ytdcjionaedcfoaa.Gf Go.Proofs.Ytdcjionaedcfoaa.Poly Go.Proofs.Ytdcjionaedcfoaa.Rs Go.Proofs.Ytdcjionaedcfoaa.Solve Go.Proofs.Ytdcjionaedcfoaa.Ref Go.Proofs.Ytdcjionaedcfoaa.Range

set_option maxRecDepth 100000 in
set_option maxHeartbeats 4000000 in
theorem other_law (n k : Int) (A A2 : Option Addr) (m c m2 c2 : Nat) (word : List UInt8) (er : List Int) (w : World) (hl : Rd B w A m word) (hl2 : Rd I w A2 m2 er) :
    Calls Try.prog 13 #[I n, I k, .agg #[.slice A m c, .slice A2 m2 c2]] w fun e w' => e = .returned (.bool true) ∧ Below w.heap.size w w' := by
  have HL := As.mk hl; clear hl
  have HL2 := As.mk hl2; clear hl2
  go_enter Try.func13, Try.ntmps13
  go_wp2_with fail
  generalize hw0 : w.alloc (.cells #[.slice A m c, .slice A2 m2 c2] 102) = w0
  have HT0 : As (Two w0 w.heap.size (.slice A m c) (.slice A2 m2 c2)) := ⟨by
    have hc (i : Nat) := blk_cell (blk_new w (.cells #[.slice A m c, .slice A2 m2 c2] 102)) i
    rw [← hw0]; exact ⟨hc 0, hc 1⟩⟩
  have HB0 : As (Below w.heap.size w w0) := ⟨hw0 ▸ alloc_below _ _⟩
  clear hw0
  generalize hb : w.heap.size = b at *
  have HBb := As.mk hb
  clear hb
  refine (awake_any _).mono ?_
  rintro e w1 ⟨rfl, hb1⟩
  have HT1 : As (Two w1 b (.slice A m c) (.slice A2 m2 c2)) := ⟨HT0.out.below hb1⟩
  have HB1 : As (Below b w w1) := ⟨below_then HB0.out (HBb.out ▸ HB0.out.size) hb1⟩
  clear hb1 HT0 HB0
  obtain ⟨x0, x1⟩ := HT1.out
  go_wp2_with fail
  refine (there_any n k w1).mono ?_
  by_cases ht : thereB n k = true
  · have hth := of_decide_eq_true ht
    rw [ht]
    clear ht
    rintro e w' ⟨rfl, rfl⟩
    by_cases h300 : m ≤ 300
    · have e1 : decide ((300 : Int) < (m : Int)) = false := decide_eq_false (by omega)
      by_cases h60 : m2 ≤ 60
      · have e2 : decide ((60 : Int) < (m2 : Int)) = false := decide_eq_false (by omega)
        obtain ⟨N, rfl⟩ : ∃ N : Nat, n = N := ⟨n.toNat, by omega⟩
        obtain ⟨K, rfl⟩ : ∃ K : Nat, k = K := ⟨k.toNat, by omega⟩
        have hth' : 1 ≤ K ∧ K < N ∧ N ≤ 255 ∧ N - K ≤ 64 := by omega
        have HTH := As.mk hth'
        clear hth hth'
        go_wp2_with fail
        refine (Gf.new_any w1).mono ?_
        rintro e w2 ⟨rfl, hf, hb2⟩
        have HF := As.mk hf
        have HB12 := As.mk hb2
        clear hf hb2
        clear x0 x1 e1 e2
        go_wp2_with fail
        refine (Rs.new_any w1.heap.size N K w2 HF.out HTH.out).mono ?_
        rintro e w3 ⟨cd, Ag, mg, cg, rfl, _, hcode, hb3⟩
        have HC3 := As.mk hcode
        have HB13 : As (Below w1.heap.size w1 w3) := ⟨below_then HB12.out HB12.out.size hb3⟩
        have HT3 : As (Two w3 b (.slice A m c) (.slice A2 m2 c2)) := ⟨HT1.out.below HB13.out⟩
        have HB3 : As (Below b w w3) := ⟨HB1.out.trans (HB13.out.mono (HBb.out ▸ HB1.out.size))⟩
        have HL3 : As (Rd B w3 A m word) := ⟨HL.out.below (HBb.out ▸ HB3.out)⟩
        have HL23 : As (Rd I w3 A2 m2 er) := ⟨HL2.out.below (HBb.out ▸ HB3.out)⟩
        clear hcode hb3 HF HB12 HB13 HT1 HB1
        obtain ⟨x0, x1⟩ := HT3.out
        go_wp2_with fail
        clear x0 x1
        refine (mend_word cd w1.heap.size N K Ag mg cg A A2 m c m2 c2 word er w3 HC3.out HL3.out HL23.out (by omega)).mono ?_
        have HWA : As (pmendX peuclid N K word er = pmendX psearch N K word er) := ⟨ways_alike finds_euclid finds_search N K word er (by have := HTH.out; omega) (by have := HTH.out; omega) (by have := HTH.out; omega)⟩
        generalize hr : pmendX psearch N K word er = r at *
        clear hr
        rintro e w4 ⟨hb4, A8, m8, c8, A9, m9, c9, rfl, h8, h9, _, hmc8⟩
        have HX4 : As (Rd B w4 A8 m8 r.2.1) := ⟨h8.rd'.2⟩
        have HP4 : As (Rd I w4 A9 m9 (r.2.2.map fun (i : Nat) => (i : Int))) := ⟨rd_int h9.rd'.2⟩
        have HT4 : As (Two w4 b (.slice A m c) (.slice A2 m2 c2)) := ⟨HT3.out.below hb4⟩
        have HB4 : As (Below b w w4) := ⟨HB3.out.trans (hb4.mono (HBb.out ▸ HB3.out.size))⟩
        have HL4 : As (Rd B w4 A m word) := ⟨HL3.out.below hb4⟩
        have HL24 : As (Rd I w4 A2 m2 er) := ⟨HL23.out.below hb4⟩
        have HC4 : As (CodeAt w4 cd w1.heap.size N K Ag mg cg) := ⟨HC3.out.below hb4⟩
        clear hb4 h8 h9 hmc8 HT3 HB3 HL3 HL23 HC3
        obtain ⟨x0, x1⟩ := HT4.out
        go_wp2_with fail
        clear x0 x1
        refine (other_word cd w1.heap.size N K Ag mg cg A A2 m c m2 c2 word er w4 HC4.out HL4.out HL24.out (by omega)).mono ?_
        rw [HWA.out]
        rintro e w5 ⟨hb5, A10, m10, c10, A11, m11, c11, rfl, h10, h11, _, hmc10⟩
        have HX5 : As (Rd B w5 A8 m8 r.2.1) := ⟨HX4.out.below hb5⟩
        have HY5 : As (Rd B w5 A10 m10 r.2.1) := ⟨h10.rd'.2⟩
        have HP5 : As (Rd I w5 A9 m9 (r.2.2.map fun (i : Nat) => (i : Int))) := ⟨HP4.out.below hb5⟩
        have HQ5 : As (Rd I w5 A11 m11 (r.2.2.map fun (i : Nat) => (i : Int))) := ⟨rd_int h11.rd'.2⟩
        have HT5 : As (Two w5 b (.slice A m c) (.slice A2 m2 c2)) := ⟨HT4.out.below hb5⟩
        have HB5 : As (Below b w w5) := ⟨HB4.out.trans (hb5.mono (HBb.out ▸ HB4.out.size))⟩
        clear hb5 h10 h11 hmc10 HX4 HP4 HT4 HB4 HL4 HL24 HC4
        obtain ⟨x0, x1⟩ := HT5.out
        go_wp2_with fail
        clear x0 x1
        refine (other_nil A m c _ w5).mono ?_
        rintro e w6 ⟨rfl, hb6⟩
        have HP6 : As (Rd I w6 A9 m9 (r.2.2.map fun (i : Nat) => (i : Int))) := ⟨HP5.out.below hb6⟩
        have HQ6 : As (Rd I w6 A11 m11 (r.2.2.map fun (i : Nat) => (i : Int))) := ⟨HQ5.out.below hb6⟩
        have HB6 : As (Below b w w6) := ⟨HB5.out.trans (hb6.mono (HBb.out ▸ HB5.out.size))⟩
        have hc1 := conv_str (c := c8) (HX5.out.below hb6)
        have hc2 := conv_str (c := c10) (HY5.out.below hb6)
        clear hb6 HX5 HY5 HP5 HQ5 HT5 HB5
        generalize r.1 = z at *
        go_wp2_with fail
        clear hc1 hc2
        refine (same_any A9 A11 m9 c9 m11 c11 _ _ w6 HP6.out HQ6.out).mono ?_
        rintro e w7 ⟨rfl, hb7⟩
        have hsame : sameB (r.2.2.map fun (i : Nat) => (i : Int)) (r.2.2.map fun (i : Nat) => (i : Int)) = true := decide_eq_true rfl
        rw [hsame]
        have HB7 : As (Below b w w7) := ⟨HB6.out.trans (hb7.mono (HBb.out ▸ HB6.out.size))⟩
        clear hb7 hsame
        go_wp2_with fail
        go_ret
        exact ⟨rfl, HBb.out ▸ HB7.out⟩
      · have e2 : decide ((60 : Int) < (m2 : Int)) = true := decide_eq_true (by omega)
        go_wp2_with fail
        go_ret
        exact ⟨rfl, HBb.out ▸ HB1.out⟩
    · have e1 : decide ((300 : Int) < (m : Int)) = true := decide_eq_true (by omega)
      go_wp2_with fail
      go_ret
      exact ⟨rfl, HBb.out ▸ HB1.out⟩
  · have ht' : thereB n k = false := by simpa using ht
    rw [ht']
    clear ht ht'
    rintro e w' ⟨rfl, rfl⟩
    go_wp2_with fail
    go_ret
    exact ⟨rfl, HBb.out ▸ HB1.out⟩
end Go.Proofs.Ytdcjionaedcfoaa.LawS
