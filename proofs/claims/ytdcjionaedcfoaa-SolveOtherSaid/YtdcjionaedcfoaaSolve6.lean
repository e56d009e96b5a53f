/- Walks of layer 7 (solve): places. -/
import Derived.Test.YtdcjionaedcfoaaSolve5
set_option linter.unusedVariables false
set_option linter.unusedSimpArgs false
namespace Go.Proofs.Ytdcjionaedcfoaa.Solve
open Go.RowKit Go.Proofs.Ytdcjionaedcfoaa.L Go.Proofs.Ytdcjionaedcfoaa.Gf Go.Proofs.Ytdcjionaedcfoaa.Poly Go.Proofs.Ytdcjionaedcfoaa.Rs

theorem info_int : (Try.prog.info? 3).map (fun i => (i.zero, i.size, i.bytes)) = some (some (.int .i64 0), 1, 8) := by kernel_rfl
theorem stepB_ne (a : UInt8) : a ≠ 0 → stepB a ≠ 0 := by
  exact u8_all (P := fun a => a ≠ 0 → stepB a ≠ 0) (by decide +kernel) a
theorem powT_ne : ∀ n, powT n ≠ 0
  | 0 => by decide
  | n + 1 => stepB_ne _ (powT_ne n)
theorem gexp_ne (n : Int) : gexp n ≠ 0 := powT_ne _
/-- Is there a root at place i? -/
def proot (n : Nat) (loc : List UInt8) (i : Nat) : Bool := peval loc.reverse (ginv (gexp ((n : Int) - 1 - i))) == 0
def pplaces (n : Nat) (loc : List UInt8) : List Nat := (List.range n).filter (proot n loc)
theorem pl_yes {n : Nat} {loc : List UInt8} {k : Nat} (h : proot n loc k = true) : (List.range (k + 1)).filter (proot n loc) = (List.range k).filter (proot n loc) ++ [k] := by simp [List.range_succ, h]
theorem pl_no {n : Nat} {loc : List UInt8} {k : Nat} (h : proot n loc k = false) : (List.range (k + 1)).filter (proot n loc) = (List.range k).filter (proot n loc) := by simp [List.range_succ, h]
theorem pl_len (n : Nat) (loc : List UInt8) (k : Nat) : ((List.range k).filter (proot n loc)).length ≤ k := by
  have := List.length_filter_le (proot n loc) (List.range k); simpa using this
set_option maxRecDepth 100000 in
set_option maxHeartbeats 1000000 in
theorem places_any (v p n pp : Nat) (V3 V4 : Value) (loc : List UInt8) (w : World) (hs : LocAt w v p n pp V3 V4 loc) (hn : n ≤ 255) (hm : loc.length ≤ 1000) :
    Calls Try.prog 204 #[.pointer (some ⟨v, 0, none⟩)] w fun e w' => ∃ (A : Option Addr) (c : Nat), e = .returned (.slice A (pplaces n loc).length c) ∧ Own N 3 w' w.heap.size (.slice A (pplaces n loc).length c) (pplaces n loc) ∧ (A = none → c = 0) ∧ (pplaces n loc).length ≤ c ∧ Below w.heap.size w w' := by
  obtain ⟨A5, m5, c5, hs5, ho5, hA5, hC5⟩ := hs
  have HS := As.mk hs5; clear hs5
  have HO := As.mk ho5
  have hm5 : m5 ≤ 70368744177664 := by have := HO.out.rd'.1; omega
  have HM := As.mk hm5
  have hmb : m5 ≤ 140737488351232 := by omega
  have HMB := As.mk hmb
  clear ho5 hA5 hC5 hm5 hmb
  go_enter Try.func204, Try.ntmps204
  obtain ⟨x0, x1, x2, x3, x4, x5, x6, x7⟩ := HS.out
  clear x7
  go_wp2_with fail
  clear x0 x1 x2 x3 x4 x5 x6
  go_loopw [3, 11] (fun o i wr => ∃ (k m : Nat) (A' : Option Addr) (c' : Nat), k ≤ n ∧ i = .int .i64 k ∧ o = .slice A' m c' ∧ m ≤ k ∧ Own N 3 wr w.heap.size (.slice A' m c') ((List.range k).filter (proot n loc)) ∧ (A' = none → c' = 0) ∧ m ≤ c' ∧ Below w.heap.size w wr) (fun _ i _ => n - (intOf i).toNat)
  case atStart => exact ⟨0, 0, none, 0, by omega, rfl, rfl, Nat.le_refl _, Own.nil _ _ _ _, fun _ => rfl, Nat.le_refl _, Below.refl _ _⟩
  case round =>
    obtain ⟨k, m, A', c', hk, rfl, rfl, hmk, hown, hA, hC, hbl⟩ := hrel
    have HOW := As.mk hown; clear hown
    have HAA := As.mk hA; clear hA
    have HCC := As.mk hC; clear hC
    have HBL := As.mk hbl; clear hbl
    obtain ⟨x0, x1, x2, x3, x4, x5, x6, x7⟩ := HS.out.below HBL.out
    clear x7
    by_cases hlt : k < n
    · generalize hx : gexp ((n : Int) - 1 - k) = x at *
      have hx0 : x ≠ 0 := by rw [← hx]; exact gexp_ne _
      have HX := As.mk hx
      have HX0 := As.mk hx0
      clear hx hx0
      generalize hy : peval loc.reverse (ginv x) = y
      have HY := As.mk hy
      clear hy
      have HP : As (proot n loc k = (y == 0)) := ⟨by rw [proot, HX.out, HY.out]⟩
      clear x0 x1 x2 x3 x4 x5 x6
      go_wp2_with fail
      refine regionT [0, 1, 2, 3, 4, 5, 6, 7, 8, 9, 10, 11, 12] mixed (by kernel_rfl) (by decide) (by kernel_rfl) ?_
      intro wd hd hds
      have HBD : As (Below wr.heap.size wr wd) := ⟨hd.out _⟩
      have HSD : As (SolAt wd v p n pp V3 V4 (.slice A5 m5 c5)) := ⟨(HS.out.below HBL.out).below HBD.out⟩
      clear hd hds
      iterate 3 (refine wpT_float rfl rfl rfl (fun w' => by go_simp; rfl) ?_; try simp only [Act.put, List.getElem_toArray, List.getElem_cons_zero, List.getElem_cons_succ, List.setIfInBounds_toArray, List.set_cons_zero, List.set_cons_succ])
      (refine wpT_load rfl rfl rfl rfl (fun w' hw' => by obtain ⟨x0, x1, x2, x3, x4, x5, _, _⟩ := HSD.out.below hw'; go_simp; rfl) ?_; try simp only [Act.put, List.getElem_toArray, List.getElem_cons_zero, List.getElem_cons_succ, List.setIfInBounds_toArray, List.set_cons_zero, List.set_cons_succ])
      iterate 2 (refine wpT_float rfl rfl rfl (fun w' => by go_simp; rfl) ?_; try simp only [Act.put, List.getElem_toArray, List.getElem_cons_zero, List.getElem_cons_succ, List.setIfInBounds_toArray, List.set_cons_zero, List.set_cons_succ])
      refine wpT_op rfl rfl rfl ?_
      go_simp
      refine (place_any v p n pp _ _ _ k wd HSD.out hn hlt).mono ?_
      rw [HX.out]
      rintro e w3 ⟨rfl, hb3⟩
      refine ⟨hb3, ?_⟩
      have HB3 := As.mk hb3
      clear hb3
      refine wpT_op rfl rfl rfl ?_
      go_simp
      refine (inv_any p x w3 (HSD.out.below HB3.out).field HX0.out).mono ?_
      rintro e w4 ⟨rfl, rfl⟩
      refine ⟨Below.refl _ _, ?_⟩
      iterate 5 (refine wpT_float rfl rfl rfl (fun w' => by go_simp; rfl) ?_; try simp only [Act.put, List.getElem_toArray, List.getElem_cons_zero, List.getElem_cons_succ, List.setIfInBounds_toArray, List.set_cons_zero, List.set_cons_succ])
      refine wpT_done (NoPanic.normal ?_)
      obtain ⟨y0, y1, y2, y3, y4, y5, y6, y7⟩ := HSD.out.below HB3.out
      clear y7
      by_cases h0 : y = 0
      · subst h0
        have HE : As (((List.range k).filter (proot n loc)).map N ++ [.int .i64 (k : Int)] = ((List.range (k + 1)).filter (proot n loc)).map N) := ⟨by rw [pl_yes (by rw [HP.out]; rfl), List.map_append]; rfl⟩
        go_wp2_with (first | (go_at_call 228; go_loud(refine (value_any v p n pp _ _ _ A5 m5 c5 loc (ginv x) _ (HSD.out.below HB3.out) HMB.out (((HO.out.rd'.2.below HBL.out).below HBD.out).below HB3.out)).mono ?_); rw [HY.out]; rintro e w5 ⟨rfl, hb5⟩; have HB5 := As.mk hb5; clear hb5) | ((with_reducible show wpList _ _ _ ({ dst := some 35, op := _, type := _, pos := _, after := _, guard := _ } :: _) _ _); refine lit_event 3 1 #[.int .i64 (k : Int)] rfl (by go_simp) ?_; intro g1 v1 hg1 _ hb1) | (at_builtin; refine append_event w w.heap.size 45 3 (.int .i64 0) 1 8 _ _ rfl rfl Try.underlying45 info_int rfl (by decide) _ m _ (some ⟨g1, 0, none⟩) 1 1 [.int .i64 (k : Int)] rfl rfl (fun h => by cases h) (ownV_below (ownV_below (ownV_below (ownV_below HOW.out.row HBD.out) HB3.out) HB5.out) hb1.out) (rdv_blk hg1.out (by simp) (by omega)) (by simp [Value.oneCell']) (below_then (below_then (below_then (below_then HBL.out HBL.out.size HBD.out) (Nat.le_trans HBL.out.size HBD.out.size) HB3.out) (Nat.le_trans (Nat.le_trans HBL.out.size HBD.out.size) HB3.out.size) HB5.out) (Nat.le_trans (Nat.le_trans (Nat.le_trans HBL.out.size HBD.out.size) HB3.out.size) HB5.out.size) hb1.out) (Nat.le_trans (Nat.le_trans (Nat.le_trans (Nat.le_trans HBL.out.size HBD.out.size) HB3.out.size) HB5.out.size) hb1.out.size) (by omega) (by decide) (m + 1) rfl _ HE.out ?_; intro A7 c7 w7 hown7 hA7 hC7 hb7 hg7 _))
        go_roundw
        case rel => exact ⟨k + 1, m + 1, A7, c7, by omega, by go_num, rfl, by omega, Own.of_row hown7.out, hA7.out, hC7.out, hb7.out⟩
        case measure => simp [intOf]; omega
      · have e1 : ((y.toNat : Int) == 0) = false := u8_ne0 h0
        have HE : As ((List.range (k + 1)).filter (proot n loc) = (List.range k).filter (proot n loc)) := ⟨pl_no (by rw [HP.out]; simpa using h0)⟩
        clear h0
        go_wp2_with (first | (go_at_call 228; go_loud(refine (value_any v p n pp _ _ _ A5 m5 c5 loc (ginv x) _ (HSD.out.below HB3.out) HMB.out (((HO.out.rd'.2.below HBL.out).below HBD.out).below HB3.out)).mono ?_); rw [HY.out]; rintro e w5 ⟨rfl, hb5⟩; have HB5 := As.mk hb5; clear hb5))
        go_roundw
        case rel => exact ⟨k + 1, m, A', c', by omega, by go_num, rfl, by omega, by rw [HE.out]; exact ((HOW.out.below HBD.out).below HB3.out).below HB5.out, HAA.out, HCC.out, below_then (below_then (below_then HBL.out HBL.out.size HBD.out) (Nat.le_trans HBL.out.size HBD.out.size) HB3.out) (Nat.le_trans (Nat.le_trans HBL.out.size HBD.out.size) HB3.out.size) HB5.out⟩
        case measure => simp [intOf]; omega
    · have e : k = n := by omega
      subst e
      have hml : m = ((List.range k).filter (proot k loc)).length := HOW.out.rd'.1
      go_wp2_with fail
      go_ret
      exact ⟨A', c', by rw [pplaces, ← hml]; rfl, by rw [pplaces, ← hml]; exact HOW.out, HAA.out, by rw [pplaces, ← hml]; exact HCC.out, HBL.out⟩
end Go.Proofs.Ytdcjionaedcfoaa.Solve
