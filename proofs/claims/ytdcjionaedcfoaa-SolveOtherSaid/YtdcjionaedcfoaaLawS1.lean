/- The law of layer 7: awake. -/
import Derived.Test.YtdcjionaedcfoaaSolve13
import Derived.Test.YtdcjionaedcfoaaRef01
set_option linter.unusedVariables false
set_option linter.unusedSimpArgs false
namespace Go.Proofs.Ytdcjionaedcfoaa.LawS
open Go.RowKit Go.Proofs.Ytdcjionaedcfoaa.L Go.Proofs.Ytdcjionaedcfoaa.Gf Go.Proofs.Ytdcjionaedcfoaa.Poly Go.Proofs.Ytdcjionaedcfoaa.Rs Go.Proofs.Ytdcjionaedcfoaa.Solve Go.Proofs.Ytdcjionaedcfoaa.Ref

theorem ex_enc : encodeOf (6 - 2) [7, 9] = [7, 9, 67, 35, 155, 245] := by decide +kernel
theorem ex_mend : pmendall psearch 6 2 [6, 9, 67, 35, 214, 245] [] = (0, [7, 9, 67, 35, 155, 245], [0, 4]) := by decide +kernel
theorem ex_gen : trim (genOf (6 - 2)) ≠ [] := by decide +kernel
theorem ex_rest : (pdiv (pshift [7, 9] (6 - 2)) (genOf (6 - 2))).2.length ≤ 6 - 2 := by decide +kernel
theorem ex_x1 : bits .xor .u8 7 1 = 6 := by decide +kernel
theorem ex_x2 : bits .xor .u8 155 77 = 214 := by decide +kernel
theorem six {w : World} {base c : Nat} {A : Option Addr} (h : L.Own B 5 w base (.slice A 6 c) [7, 9, 67, 35, 155, 245]) :
    ∃ g, A = some ⟨g, 0, none⟩ ∧ base ≤ g ∧ g < w.heap.size ∧ w.cell? ⟨g, 0, none⟩ = some (.int .u8 7) ∧ w.cell? ⟨g, 4, none⟩ = some (.int .u8 155) ∧ w.frozen? ⟨g, 0, none⟩ = false ∧ w.frozen? ⟨g, 4, none⟩ = false := by
  obtain ⟨g6, rfl, hge6, hlt6, _, _⟩ := h.at_ 0 (by simp)
  refine ⟨g6, rfl, hge6, hlt6, ?_, ?_, ?_, ?_⟩
  · obtain ⟨x, hx, hc, _⟩ := h.at' 0 (by omega); cases hx; exact hc
  · obtain ⟨x, hx, hc, _⟩ := h.at' 4 (by omega); cases hx; exact hc
  · obtain ⟨x, hx, _, hf⟩ := h.at' 0 (by omega); exact hf
  · obtain ⟨x, hx, _, hf⟩ := h.at' 4 (by omega); exact hf
set_option maxRecDepth 100000 in
set_option maxHeartbeats 2000000 in
theorem awake_any (w : World) : Calls Try.prog 57 #[] w fun e w' => e = .returned (.bool true) ∧ Below w.heap.size w w' := by
  go_enter Try.func57, Try.ntmps57
  go_wp2_with fail
  refine (Gf.new_any _).mono ?_
  rintro e w1 ⟨rfl, hf, hb1⟩
  have HF := As.mk hf
  have HB1 := As.mk hb1
  clear hf hb1
  go_wp2_with fail
  have hN := As.mk (Rs.new_any w.heap.size 6 2 w1 HF.out (by omega))
  refine hN.out.mono ?_
  rintro e w2 ⟨c, A, m, cc, rfl, hcb, hcode, hb2⟩
  have HC := As.mk hcode
  have HB2 : As (Below w.heap.size w w2) := ⟨below_then HB1.out HB1.out.size hb2⟩
  clear hcb hcode hb2 hN
  go_wp2_with ((with_reducible show wpList _ _ _ ({ dst := some 18, op := _, type := _, pos := _, after := _, guard := _ } :: _) _ _); refine lit_event 5 2 #[.int .u8 7, .int .u8 9] rfl (by go_simp) ?_; intro g3 w3 hg3 hl3 hb3)
  have HB3 : As (Below w.heap.size w w3) := ⟨below_then HB2.out HB2.out.size hb3.out⟩
  have HC3 : As (CodeAt w3 c w.heap.size 6 2 A m cc) := ⟨HC.out.below hb3.out⟩
  have HL3 : As (Rd B w3 (some ⟨g3, 0, none⟩) 2 [7, 9]) := ⟨rd_blk B [7, 9] hg3.out (by simp)⟩
  clear hg3 hl3 hb3 HC HB2
  refine (enc_any c w.heap.size 6 2 A m cc (some ⟨g3, 0, none⟩) 2 [7, 9] w3 HC3.out HL3.out (Nat.le_refl _) (fun h => by cases h) ex_gen ex_rest).mono ?_
  rw [ex_enc]
  rintro e w4 ⟨A4, m4, c4, rfl, hown4, hA4, hC4, hb4⟩
  have hm4 : m4 = 6 := hown4.rd'.1
  subst hm4
  have HO4 := As.mk hown4
  have HA4 := As.mk hA4
  have HC4 := As.mk hC4
  have HB4 : As (Below w.heap.size w w4) := ⟨below_then HB3.out HB3.out.size hb4⟩
  have HCO4 : As (CodeAt w4 c w.heap.size 6 2 A m cc) := ⟨HC3.out.below hb4⟩
  clear hown4 hA4 hC4 hb4 HB3 HL3 HC3
  obtain ⟨g4, hg4, _, hlt4, _, _⟩ := HO4.out.at_ 0 (by simp)
  subst hg4
  have HG4 : As (g4 < w4.heap.size) := ⟨hlt4⟩
  clear hlt4
  have i0 : (0 : Int) ≤ 0 ∧ (0 : Int) < ((6 : Nat) : Int) := by omega
  have i1 : ((0 : Nat) < 6) = True := by simp
  have i4 : (0 : Int) ≤ 4 ∧ (4 : Int) < ((6 : Nat) : Int) := by omega
  go_wp2_with (first | ((with_reducible show wpList _ _ _ ({ dst := some 29, op := _, type := _, pos := _, after := _, guard := _ } :: _) _ _); refine lit_event 5 0 #[] rfl (by go_simp) ?_; intro g5 w5 hg5 hl5 hb5) | (at_builtin; refine append_event w4 w4.heap.size 39 5 (.int .u8 0) 1 1 _ _ rfl rfl Try.underlying39 info_u8 rfl (by decide) _ 0 [] (some ⟨g4, 0, none⟩) 6 c4 ([7, 9, 67, 35, 155, 245].map B) rfl rfl (fun h => by cases h) (own_blk B [] hg5.out hl5.out (by simp)) (RdV.below HO4.out.rd'.2 hb5.out) (oneB _) hb5.out hb5.out.size (by omega) (by decide) 6 rfl _ rfl ?_; intro A6 c6 w6 hown6 hA6 hC6 hb6 _ _; obtain ⟨g6, rfl, hge6, hlt6, h0, h4, hf0, hf4⟩ := six (Own.of_row hown6.out); have HG6 := As.mk hge6; clear hge6))
  rw [ex_x1, ex_x2]
  obtain ⟨w7, hw7⟩ : ∃ w7, w7 = (w6.setCell ⟨g6, 0, none⟩ (.int .u8 6)).setCell ⟨g6, 4, none⟩ (.int .u8 214) := ⟨_, rfl⟩
  rw [← hw7]
  have HO7 : As (L.Own B 5 w7 w4.heap.size (.slice (some ⟨g6, 0, none⟩) 6 c6) [6, 9, 67, 35, 214, 245]) := ⟨by
    rw [hw7]; exact ((Own.of_row (xs := [7, 9, 67, 35, 155, 245]) hown6.out).set 0 (6 : UInt8)).set 4 (214 : UInt8)⟩
  have HB47 : As (Below w4.heap.size w4 w7) := ⟨by rw [hw7]; exact (hb6.out.setCell (p := ⟨g6, 0, none⟩) HG6.out _).setCell (p := ⟨g6, 4, none⟩) HG6.out _⟩
  have HL7 : As (Rd B w7 (some ⟨g4, 0, none⟩) 6 [7, 9, 67, 35, 155, 245]) := ⟨HO4.out.rd'.2.below HB47.out⟩
  have HC7 : As (CodeAt w7 c w.heap.size 6 2 A m cc) := ⟨HCO4.out.below HB47.out⟩
  have HB7 : As (Below w.heap.size w w7) := ⟨below_then HB4.out HB4.out.size HB47.out⟩
  have HA7 : As (∀ ad, (some (⟨g6, 0, none⟩ : Addr)) = some ad → ad.block < w7.heap.size) := ⟨fun ad h => by
    cases h; rw [hw7]; simpa [World.setCell] using hlt6⟩
  clear hw7 h0 h4 hf0 hf4 hown6 hA6 hC6 hb6 HG6 hlt6 HB47 HO4 HCO4 HB4 HF HB1 hg5 hl5 hb5 i0 i1 i4 HA4 HG4 HC4
  refine (mend_all c w.heap.size 6 2 A m cc (some ⟨g6, 0, none⟩) none c6 0 0 [6, 9, 67, 35, 214, 245] [] w7 HC7.out HO7.out.rd'.2 (Rd.nil _ _ _) (by omega)).mono ?_
  rw [ex_mend]
  rintro e w8 ⟨hb8, A8, m8, c8, A9, m9, c9, rfl, h8, h9, h10, h11⟩
  have HB8 : As (Below w.heap.size w w8) := ⟨below_then HB7.out HB7.out.size hb8⟩
  have HL8 : As (Rd B w8 (some ⟨g4, 0, none⟩) 6 [7, 9, 67, 35, 155, 245]) := ⟨HL7.out.below hb8⟩
  have hc1 := conv_str (c := c4) HL8.out
  have hc2 := conv_str (c := c8) h8.rd'.2
  have HN9 : As (Rd I w8 A9 m9 [0, 4]) := ⟨rd_int h9.rd'.2⟩
  clear hb8 h8 h9 h10 h11 HB7 HL7 HC7 HO7 HA7
  go_wp2_with fail
  clear hc1 hc2
  refine (same_any A9 (some ⟨w8.heap.size, 0, none⟩) m9 c9 2 2 [0, 4] [0, 4] _ (HN9.out.below (alloc_below _ _)) (rd_lit I w8 3 [0, 4] (by simp))).mono ?_
  rintro e w9 ⟨rfl, hb9⟩
  have HB9 : As (Below w.heap.size w w9) := ⟨(below_alloc HB8.out _).trans (hb9.mono (Nat.le_trans HB8.out.size (by simp)))⟩
  clear hb9
  rw [show sameB [0, 4] [0, 4] = true from rfl]
  go_wp2_with fail
  go_ret
  exact ⟨rfl, HB9.out⟩
/-- The law SolveNone. -/
theorem none_any (A : Option Addr) (m c : Nat) (n : Int) (w : World) : Calls Try.prog 12 #[.slice A m c, I n] w fun e w' => e = .returned (.bool true) ∧ Below w.heap.size w w' := by
  go_enter Try.func12, Try.ntmps12
  go_wp2_with (first | (go_at_call 57; refine (awake_any _).mono ?_; rintro e w1 ⟨rfl, hb1⟩; have HB1 := As.mk hb1; clear hb1) | (go_at_call 60; refine (mend_nil _ _ _ _ _).mono ?_; rintro e w2 ⟨rfl, hb2⟩; have HB2 := As.mk hb2; clear hb2) | (go_at_call 66; refine (within_nil _ _ _).mono ?_; rintro e w3 ⟨rfl, rfl⟩))
  go_ret
  exact ⟨rfl, below_then HB1.out HB1.out.size HB2.out⟩
end Go.Proofs.Ytdcjionaedcfoaa.LawS
