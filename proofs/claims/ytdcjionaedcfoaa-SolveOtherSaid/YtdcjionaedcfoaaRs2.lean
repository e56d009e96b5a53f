/- Walks of layer 6 (rs): Syndromes, Right, Size, Over. -/
import Derived.Test.YtdcjionaedcfoaaRs
set_option linter.unusedVariables false
set_option linter.unusedSimpArgs false
namespace Go.Proofs.Ytdcjionaedcfoaa.Rs
open Go.RowKit Go.Proofs.Ytdcjionaedcfoaa.L Go.Proofs.Ytdcjionaedcfoaa.Gf Go.Proofs.Ytdcjionaedcfoaa.Poly

def syn (m : Nat) (word : List UInt8) : List UInt8 := (List.range m).map fun (i : Nat) => peval word (gexp (i : Int))
theorem syn_succ (m : Nat) (word : List UInt8) : syn (m + 1) word = syn m word ++ [peval word (gexp (m : Int))] := by simp [syn, List.range_succ]
theorem size_any (c p n k : Nat) (A : Option Addr) (m cc : Nat) (w : World) (hc : CodeAt w c p n k A m cc) :
    Calls Try.prog 120 #[.pointer (some ⟨c, 0, none⟩)] w fun e w' => e = .returned (.tuple #[I n, I k]) ∧ Below w.heap.size w w' := by
  have HC := As.mk hc; clear hc
  go_enter Try.func120, Try.ntmps120
  go_wp2_with fail
  refine regionT [0, 1, 2, 3, 4, 5, 6, 7, 8, 9] mixed (by kernel_rfl) (by decide) (by kernel_rfl) ?_
  intro wd hd _
  have HCD : As (CodeAt wd c p n k A m cc) := ⟨HC.out.below (hd.out _)⟩
  iterate 3 (refine wpT_float rfl rfl rfl (fun w' => by go_simp; rfl) ?_; try simp only [Act.put, List.getElem_toArray, List.getElem_cons_zero, List.getElem_cons_succ, List.setIfInBounds_toArray, List.set_cons_zero, List.set_cons_succ])
  (refine wpT_load rfl rfl rfl rfl (fun w' hw' => by obtain ⟨x0, x1, x2, x3, _, _, _⟩ := HCD.out.below hw'; go_simp; rfl) ?_; try simp only [Act.put, List.getElem_toArray, List.getElem_cons_zero, List.getElem_cons_succ, List.setIfInBounds_toArray, List.set_cons_zero, List.set_cons_succ])
  iterate 3 (refine wpT_float rfl rfl rfl (fun w' => by go_simp; rfl) ?_; try simp only [Act.put, List.getElem_toArray, List.getElem_cons_zero, List.getElem_cons_succ, List.setIfInBounds_toArray, List.set_cons_zero, List.set_cons_succ])
  (refine wpT_load rfl rfl rfl rfl (fun w' hw' => by obtain ⟨x0, x1, x2, x3, _, _, _⟩ := HCD.out.below hw'; go_simp; rfl) ?_; try simp only [Act.put, List.getElem_toArray, List.getElem_cons_zero, List.getElem_cons_succ, List.setIfInBounds_toArray, List.set_cons_zero, List.set_cons_succ])
  iterate 2 (refine wpT_float rfl rfl rfl (fun w' => by go_simp; rfl) ?_; try simp only [Act.put, List.getElem_toArray, List.getElem_cons_zero, List.getElem_cons_succ, List.setIfInBounds_toArray, List.set_cons_zero, List.set_cons_succ])
  refine wpT_done (NoPanic.normal ?_)
  go_wp2_with fail
  go_ret2
  exact ⟨rfl, hd.out _⟩
theorem size_nil (w : World) : Calls Try.prog 120 #[.pointer none] w fun e w' => e = .returned (.tuple #[I 0, I 0]) ∧ w = w' := by
  go_enter Try.func120, Try.ntmps120
  go_wp2_with fail
  go_ret2
  exact ⟨rfl, rfl⟩
theorem over_any (c p n k : Nat) (A : Option Addr) (m cc : Nat) (w : World) (hc : CodeAt w c p n k A m cc) :
    Calls Try.prog 155 #[.pointer (some ⟨c, 0, none⟩)] w fun e w' => e = .returned (.pointer (some ⟨p, 0, none⟩)) ∧ w = w' := by
  obtain ⟨x0, _, _, _, _, _, _⟩ := hc
  go_enter Try.func155, Try.ntmps155
  go_wp2_with fail
  go_ret
  exact ⟨rfl, rfl⟩

/-! ### Syndromes -/
theorem syn_nil (v : Value) (w : World) : Calls Try.prog 115 #[.pointer none, v] w fun e w' => e = .returned (.tuple #[.slice none 0 0, I 1]) ∧ w = w' := by
  go_enter Try.func115, Try.ntmps115
  go_wp2_with fail
  go_ret2
  exact ⟨rfl, rfl⟩
theorem syn_bad (c p n k : Nat) (A : Option Addr) (m cc : Nat) (A2 : Option Addr) (n2 c2 : Nat) (w : World) (hc : CodeAt w c p n k A m cc) (hn : n2 ≠ n) :
    Calls Try.prog 115 #[.pointer (some ⟨c, 0, none⟩), .slice A2 n2 c2] w fun e w' => e = .returned (.tuple #[.slice none 0 0, I 1]) ∧ w = w' := by
  obtain ⟨x0, x1, _, _, _, _, _⟩ := hc
  have e1 : ((n2 : Int) != n) = true := by rw [bne_iff_ne]; omega
  have e2 : (n2 != n) = true := by rw [bne_iff_ne]; omega
  clear hn
  go_enter Try.func115, Try.ntmps115
  go_wp2_with fail
  go_ret2
  exact ⟨rfl, rfl⟩
/-- A new slice, beside a number. -/
def RetBE (w : World) (xs : List UInt8) (n : Int) (e : Ending) (w' : World) : Prop :=
  ∃ A m c, e = .returned (.tuple #[.slice A m c, I n]) ∧ Own B 5 w' w.heap.size (.slice A m c) xs ∧ (A = none → c = 0) ∧ m ≤ c ∧ Below w.heap.size w w'
set_option maxRecDepth 100000 in
set_option maxHeartbeats 2000000 in
theorem syn_any (c p n k : Nat) (A : Option Addr) (m cc : Nat) (A2 : Option Addr) (c2 : Nat) (word : List UInt8) (w : World) (hc : CodeAt w c p n k A m cc) (hl : Rd B w A2 n word) :
    Calls Try.prog 115 #[.pointer (some ⟨c, 0, none⟩), .slice A2 n c2] w (RetBE w (syn (n - k) word) 0) := by
  have HC := As.mk hc
  have HL := As.mk hl; clear hl
  obtain ⟨x0, x1, _, _, _, _, ⟨k1, k2, k3, k4⟩⟩ := hc
  have e1 : ((n : Int) != n) = false := by simp
  go_enter Try.func115, Try.ntmps115
  go_wp2_with fail
  have q1 : IntKind.i64.wrap ((n : Int) - k) = (n : Int) - k := IntWalk.i64_in _ (by omega)
  refine regionT [0, 1, 2, 3, 4, 5, 6, 7, 8, 9] mixed (by kernel_rfl) (by decide) (by kernel_rfl) ?_
  intro wd hd _
  have HCD : As (CodeAt wd c p n k A m cc) := ⟨HC.out.below (hd.out _)⟩
  iterate 3 (refine wpT_float rfl rfl rfl (fun w' => by go_simp; rfl) ?_; try simp only [Act.put, List.getElem_toArray, List.getElem_cons_zero, List.getElem_cons_succ, List.setIfInBounds_toArray, List.set_cons_zero, List.set_cons_succ])
  (refine wpT_load rfl rfl rfl rfl (fun w' hw' => by obtain ⟨x0, x1, x2, x3, _, _, _⟩ := HCD.out.below hw'; go_simp; rfl) ?_; try simp only [Act.put, List.getElem_toArray, List.getElem_cons_zero, List.getElem_cons_succ, List.setIfInBounds_toArray, List.set_cons_zero, List.set_cons_succ])
  iterate 3 (refine wpT_float rfl rfl rfl (fun w' => by go_simp; rfl) ?_; try simp only [Act.put, List.getElem_toArray, List.getElem_cons_zero, List.getElem_cons_succ, List.setIfInBounds_toArray, List.set_cons_zero, List.set_cons_succ])
  (refine wpT_load rfl rfl rfl rfl (fun w' hw' => by obtain ⟨x0, x1, x2, x3, _, _, _⟩ := HCD.out.below hw'; go_simp; rfl) ?_; try simp only [Act.put, List.getElem_toArray, List.getElem_cons_zero, List.getElem_cons_succ, List.setIfInBounds_toArray, List.set_cons_zero, List.set_cons_succ])
  iterate 2 (refine wpT_float rfl rfl rfl (fun w' => by go_simp; rfl) ?_; try simp only [Act.put, List.getElem_toArray, List.getElem_cons_zero, List.getElem_cons_succ, List.setIfInBounds_toArray, List.set_cons_zero, List.set_cons_succ])
  refine wpT_done (NoPanic.normal ?_)
  have HBD : As (Below w.heap.size w wd) := ⟨hd.out _⟩
  clear q1 x0 x1 hd e1 HCD
  go_wp2_with fail
  go_loopw [6, 28] (fun o i wr => ∃ (j : Nat) (A' : Option Addr) (c' : Nat), j ≤ n - k ∧ i = .int .i64 j ∧ o = .slice A' j c' ∧ Own B 5 wr w.heap.size (.slice A' j c') (syn j word) ∧ (A' = none → c' = 0) ∧ j ≤ c' ∧ Below w.heap.size w wr) (fun _ i _ => (n - k) - (intOf i).toNat)
  case atStart => exact ⟨0, none, 0, by omega, rfl, rfl, Own.nil _ _ _ _, fun _ => rfl, Nat.le_refl _, HBD.out⟩
  case round =>
    obtain ⟨j, A', c', hj, rfl, rfl, hown, hA, hC, hbl⟩ := hrel
    have HOW := As.mk hown; clear hown
    have HA := As.mk hA; clear hA
    have HCC := As.mk hC; clear hC
    have HBL := As.mk hbl; clear hbl
    by_cases hlt : j < n - k
    · have hlt' : (j : Int) < (n : Int) - k := by omega
      have HE : As ((syn j word).map B ++ [B (peval word (gexp (j : Int)))] = (syn (j + 1) word).map B) := ⟨by rw [syn_succ, List.map_append]; rfl⟩
      go_wp2_with fail
      refine regionT [0, 1, 2, 3, 4, 5, 6, 7, 8, 9, 10, 11, 12, 13, 14, 15] mixed (by kernel_rfl) (by decide) (by kernel_rfl) ?_
      intro wx hx hxs
      have HCDx : As (CodeAt wx c p n k A m cc) := ⟨(HC.out.below HBL.out).below (hx.out _)⟩
      have HOX : As (wx.ownsRow w.heap.size 5 1 (.slice A' j c') j ((syn j word).map B)) := ⟨ownV_below HOW.out.row (hx.out _)⟩
      have HLX : As (Rd B wx A2 n word) := ⟨(HL.out.below HBL.out).below (hx.out _)⟩
      have HBX : As (Below w.heap.size w wx) := ⟨HBL.out.trans (hx.out _)⟩
      have HCD := HCDx
      generalize hgx : gexp (j : Int) = x at *
      have HX := As.mk hgx
      generalize hpx : peval word x = y at *
      have HY := As.mk hpx
      clear hgx hpx HOW HBL HC HL hx hxs
      iterate 4 (refine wpT_float rfl rfl rfl (fun w' => by go_simp; rfl) ?_; try simp only [Act.put, List.getElem_toArray, List.getElem_cons_zero, List.getElem_cons_succ, List.setIfInBounds_toArray, List.set_cons_zero, List.set_cons_succ])
      (refine wpT_load rfl rfl rfl rfl (fun w' hw' => by obtain ⟨x0, x1, x2, x3, _, _, _⟩ := HCD.out.below hw'; go_simp; rfl) ?_; try simp only [Act.put, List.getElem_toArray, List.getElem_cons_zero, List.getElem_cons_succ, List.setIfInBounds_toArray, List.set_cons_zero, List.set_cons_succ])
      iterate 4 (refine wpT_float rfl rfl rfl (fun w' => by go_simp; rfl) ?_; try simp only [Act.put, List.getElem_toArray, List.getElem_cons_zero, List.getElem_cons_succ, List.setIfInBounds_toArray, List.set_cons_zero, List.set_cons_succ])
      (refine wpT_load rfl rfl rfl rfl (fun w' hw' => by obtain ⟨x0, x1, x2, x3, _, _, _⟩ := HCD.out.below hw'; go_simp; rfl) ?_; try simp only [Act.put, List.getElem_toArray, List.getElem_cons_zero, List.getElem_cons_succ, List.setIfInBounds_toArray, List.set_cons_zero, List.set_cons_succ])
      iterate 1 (refine wpT_float rfl rfl rfl (fun w' => by go_simp; rfl) ?_; try simp only [Act.put, List.getElem_toArray, List.getElem_cons_zero, List.getElem_cons_succ, List.setIfInBounds_toArray, List.set_cons_zero, List.set_cons_succ])
      refine wpT_op rfl rfl rfl ?_
      go_simp
      refine (exp_any p j wx HCD.out.field).mono ?_
      rw [HX.out]
      rintro e w' ⟨rfl, rfl⟩
      refine ⟨Below.refl _ _, ?_⟩
      refine wpT_op rfl rfl rfl ?_
      go_simp
      refine (eval_any p _ _ _ word x _ HCD.out.field HLX.out).mono ?_
      rw [HY.out]
      rintro e w1 ⟨rfl, hb1⟩
      refine ⟨hb1, ?_⟩
      have HB1 := As.mk hb1; clear hb1
      refine wpT_lit 5 1 #[B y] rfl rfl rfl (by go_simp) ?_
      intro g2 w2 hg2 hgl2 hb2
      refine wpT_lastThen rfl rfl (by kernel_rfl) rfl ?_
      refine append_event w w.heap.size 39 5 (.int .u8 0) 1 1 _ _ rfl rfl Try.underlying39 info_u8 rfl (by decide) (.slice A' j c') j _ (some ⟨g2, 0, none⟩) 1 1 [B y] rfl rfl (fun h => by cases h) (ownV_below (ownV_below HOX.out HB1.out) hb2.out) (rdv_blk hg2.out (by simp) (by omega)) (by simp [Value.oneCell']) (below_then (below_then HBX.out HBX.out.size HB1.out) (Nat.le_trans HBX.out.size HB1.out.size) hb2.out) (Nat.le_trans (Nat.le_trans HBX.out.size HB1.out.size) hb2.out.size) (by omega) (by decide) (j + 1) rfl _ HE.out ?_
      intro A3 c3 w3 hown3 hA3 hC3 hb3 hg3 _
      change wpT _ _ _ _ _ _ _
      iterate 1 (refine wpT_float rfl rfl rfl (fun w' => by go_simp; rfl) ?_; try simp only [Act.put, List.getElem_toArray, List.getElem_cons_zero, List.getElem_cons_succ, List.setIfInBounds_toArray, List.set_cons_zero, List.set_cons_succ])
      refine wpT_done (NoPanic.normal ?_)
      go_wp2_with fail
      go_roundw
      case rel => exact ⟨j + 1, A3, c3, by omega, by go_num, rfl, Own.of_row hown3.out, hA3.out, hC3.out, hb3.out⟩
      case measure => simp [intOf]; omega
    · have e : j = n - k := by omega
      have hlt' : ¬ (j : Int) < (n : Int) - k := by omega
      have E := As.mk e; clear e
      go_wp2_with fail
      go_ret2
      exact ⟨A', j, c', rfl, E.out ▸ HOW.out, HA.out, HCC.out, HBL.out⟩
end Go.Proofs.Ytdcjionaedcfoaa.Rs
