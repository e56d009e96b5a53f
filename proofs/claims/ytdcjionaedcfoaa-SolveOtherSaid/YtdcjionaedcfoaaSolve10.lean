/- Walks of layer 7 (solve): unlikes. -/
import Derived.Test.YtdcjionaedcfoaaSolve9
set_option linter.unusedVariables false
set_option linter.unusedSimpArgs false
namespace Go.Proofs.Ytdcjionaedcfoaa.Solve
open Go.RowKit Go.Proofs.Ytdcjionaedcfoaa.L Go.Proofs.Ytdcjionaedcfoaa.Gf Go.Proofs.Ytdcjionaedcfoaa.Poly Go.Proofs.Ytdcjionaedcfoaa.Rs

def differ (a b : List UInt8) (i : Nat) : Bool := a.getD i 0 != b.getD i 0
/-- Where they differ. -/
def punlikes (a b : List UInt8) : List Nat := (List.range a.length).filter (differ a b)
theorem un_yes {a b : List UInt8} {k : Nat} (h : differ a b k = true) : (List.range (k + 1)).filter (differ a b) = (List.range k).filter (differ a b) ++ [k] := by simp [List.range_succ, h]
theorem un_no {a b : List UInt8} {k : Nat} (h : differ a b k = false) : (List.range (k + 1)).filter (differ a b) = (List.range k).filter (differ a b) := by simp [List.range_succ, h]
/-- A slice of ints, of the call's own. -/
def RetN (w : World) (xs : List Nat) (e : Ending) (w' : World) : Prop :=
  ∃ A n c, e = .returned (.slice A n c) ∧ Own N 3 w' w.heap.size (.slice A n c) xs ∧ (A = none → c = 0) ∧ n ≤ c ∧ Below w.heap.size w w'
set_option maxRecDepth 100000 in
set_option maxHeartbeats 1000000 in
theorem unlikes_any (A A2 : Option Addr) (m c m2 c2 : Nat) (xs ys : List UInt8) (w : World) (hm : m ≤ 1000000) (hmm : m ≤ m2) (hl : Rd B w A m xs) (hl2 : Rd B w A2 m2 ys) :
    Calls Try.prog 158 #[.slice A m c, .slice A2 m2 c2] w (RetN w (punlikes xs ys)) := by
  have HL := As.mk hl; clear hl
  have HL2 := As.mk hl2; clear hl2
  go_enter Try.func158, Try.ntmps158
  go_wp2_with fail
  go_loopw [5, 9] (fun o i wr => ∃ (k n : Nat) (A' : Option Addr) (c' : Nat), k ≤ m ∧ i = .int .i64 k ∧ o = .slice A' n c' ∧ n ≤ k ∧ Own N 3 wr w.heap.size (.slice A' n c') ((List.range k).filter (differ xs ys)) ∧ (A' = none → c' = 0) ∧ n ≤ c' ∧ Below w.heap.size w wr) (fun _ i _ => m - (intOf i).toNat)
  case atStart => exact ⟨0, 0, none, 0, by omega, rfl, rfl, Nat.le_refl _, Own.nil _ _ _ _, fun _ => rfl, Nat.le_refl _, Below.refl _ _⟩
  case round =>
    obtain ⟨k, n, A', c', hk, rfl, rfl, hnk, hown, hA, hC, hbl⟩ := hrel
    have HOW := As.mk hown; clear hown
    have HAA := As.mk hA; clear hA
    have HCC := As.mk hC; clear hC
    have HBL := As.mk hbl; clear hbl
    by_cases hlt : k < m
    · have hlt2 : k < m2 := by omega
      obtain ⟨ad, rfl, x, hx, hc⟩ := HL.out.at_ k hlt
      obtain ⟨ad2, rfl, y, hy, hc2⟩ := HL2.out.at_ k hlt2
      have HDF : As (differ xs ys k = (x != y)) := ⟨by rw [differ, List.getD_eq_getElem?_getD, List.getD_eq_getElem?_getD, hx, hy]; rfl⟩
      have HC1 := As.mk hc
      have HC2 := As.mk hc2
      clear hx hy hc hc2
      go_wp2_with fail
      by_cases h0 : x = y
      · subst h0
        have e1 : ((x.toNat : Int) != (x.toNat : Int)) = false := by simp
        have HE : As ((List.range (k + 1)).filter (differ xs ys) = (List.range k).filter (differ xs ys)) := ⟨un_no (by rw [HDF.out]; simp)⟩
        refine regionT [0, 1, 2, 3, 4, 5, 6, 7, 8] mixed (by kernel_rfl) (by decide) (by kernel_rfl) ?_
        intro wd hd hds
        have HBD : As (Below w.heap.size w wd) := ⟨HBL.out.trans (hd.out _)⟩
        have hxc : wd.cell? (ad.add k) = some (B x) := (HBD.out.cell (p := ad.add k) (World.block_lt_of_cell? _ _ HC1.out)).trans HC1.out
        have hyc : wd.cell? (ad2.add k) = some (B x) := (HBD.out.cell (p := ad2.add k) (World.block_lt_of_cell? _ _ HC2.out)).trans HC2.out
        have HXC := As.mk hxc
        have HYC := As.mk hyc
        clear hxc hyc hds
        iterate 3 (refine wpT_float rfl rfl rfl (fun w' => by go_simp; rfl) ?_; try simp only [Act.put, List.getElem_toArray, List.getElem_cons_zero, List.getElem_cons_succ, List.setIfInBounds_toArray, List.set_cons_zero, List.set_cons_succ])
        (refine wpT_load rfl rfl rfl rfl (fun w' hw' => by have hq : w'.cell? (ad.add k) = some (B x) := (hw'.cell (p := (ad.add k)) (World.block_lt_of_cell? _ _ HXC.out)).trans HXC.out; go_simp; rfl) ?_; try simp only [Act.put, List.getElem_toArray, List.getElem_cons_zero, List.getElem_cons_succ, List.setIfInBounds_toArray, List.set_cons_zero, List.set_cons_succ])
        iterate 3 (refine wpT_float rfl rfl rfl (fun w' => by go_simp; rfl) ?_; try simp only [Act.put, List.getElem_toArray, List.getElem_cons_zero, List.getElem_cons_succ, List.setIfInBounds_toArray, List.set_cons_zero, List.set_cons_succ])
        (refine wpT_load rfl rfl rfl rfl (fun w' hw' => by have hq : w'.cell? (ad2.add k) = some (B x) := (hw'.cell (p := (ad2.add k)) (World.block_lt_of_cell? _ _ HYC.out)).trans HYC.out; go_simp; rfl) ?_; try simp only [Act.put, List.getElem_toArray, List.getElem_cons_zero, List.getElem_cons_succ, List.setIfInBounds_toArray, List.set_cons_zero, List.set_cons_succ])
        iterate 1 (refine wpT_float rfl rfl rfl (fun w' => by go_simp; rfl) ?_; try simp only [Act.put, List.getElem_toArray, List.getElem_cons_zero, List.getElem_cons_succ, List.setIfInBounds_toArray, List.set_cons_zero, List.set_cons_succ])
        refine wpT_done (NoPanic.normal ?_)
        go_wp2_with fail
        go_roundw
        case rel => exact ⟨k + 1, n, A', c', by omega, by go_num, rfl, by omega, by rw [HE.out]; exact HOW.out.below (hd.out _), HAA.out, HCC.out, HBD.out⟩
        case measure => simp [intOf]; omega
      · have e1 : ((x.toNat : Int) != (y.toNat : Int)) = true := by
          have : x.toNat ≠ y.toNat := fun h => h0 (UInt8.toNat_inj.1 h)
          simp; omega
        have HE : As (((List.range k).filter (differ xs ys)).map N ++ [.int .i64 (k : Int)] = ((List.range (k + 1)).filter (differ xs ys)).map N) := ⟨by rw [un_yes (by rw [HDF.out]; simpa using h0), List.map_append]; rfl⟩
        clear h0
        refine regionT [0, 1, 2, 3, 4, 5, 6, 7, 8] mixed (by kernel_rfl) (by decide) (by kernel_rfl) ?_
        intro wd hd hds
        have HBD : As (Below w.heap.size w wd) := ⟨HBL.out.trans (hd.out _)⟩
        have hxc : wd.cell? (ad.add k) = some (B x) := (HBD.out.cell (p := ad.add k) (World.block_lt_of_cell? _ _ HC1.out)).trans HC1.out
        have hyc : wd.cell? (ad2.add k) = some (B y) := (HBD.out.cell (p := ad2.add k) (World.block_lt_of_cell? _ _ HC2.out)).trans HC2.out
        have HXC := As.mk hxc
        have HYC := As.mk hyc
        clear hxc hyc hds
        iterate 3 (refine wpT_float rfl rfl rfl (fun w' => by go_simp; rfl) ?_; try simp only [Act.put, List.getElem_toArray, List.getElem_cons_zero, List.getElem_cons_succ, List.setIfInBounds_toArray, List.set_cons_zero, List.set_cons_succ])
        (refine wpT_load rfl rfl rfl rfl (fun w' hw' => by have hq : w'.cell? (ad.add k) = some (B x) := (hw'.cell (p := (ad.add k)) (World.block_lt_of_cell? _ _ HXC.out)).trans HXC.out; go_simp; rfl) ?_; try simp only [Act.put, List.getElem_toArray, List.getElem_cons_zero, List.getElem_cons_succ, List.setIfInBounds_toArray, List.set_cons_zero, List.set_cons_succ])
        iterate 3 (refine wpT_float rfl rfl rfl (fun w' => by go_simp; rfl) ?_; try simp only [Act.put, List.getElem_toArray, List.getElem_cons_zero, List.getElem_cons_succ, List.setIfInBounds_toArray, List.set_cons_zero, List.set_cons_succ])
        (refine wpT_load rfl rfl rfl rfl (fun w' hw' => by have hq : w'.cell? (ad2.add k) = some (B y) := (hw'.cell (p := (ad2.add k)) (World.block_lt_of_cell? _ _ HYC.out)).trans HYC.out; go_simp; rfl) ?_; try simp only [Act.put, List.getElem_toArray, List.getElem_cons_zero, List.getElem_cons_succ, List.setIfInBounds_toArray, List.set_cons_zero, List.set_cons_succ])
        iterate 1 (refine wpT_float rfl rfl rfl (fun w' => by go_simp; rfl) ?_; try simp only [Act.put, List.getElem_toArray, List.getElem_cons_zero, List.getElem_cons_succ, List.setIfInBounds_toArray, List.set_cons_zero, List.set_cons_succ])
        refine wpT_done (NoPanic.normal ?_)
        go_wp2_with (first | ((with_reducible show wpList _ _ _ ({ dst := some 23, op := _, type := _, pos := _, after := _, guard := _ } :: _) _ _); refine lit_event 3 1 #[.int .i64 (k : Int)] rfl (by go_simp) ?_; intro g1 v1 hg1 _ hb1) | (at_builtin; refine append_event w w.heap.size 45 3 (.int .i64 0) 1 8 _ _ rfl rfl Try.underlying45 info_int rfl (by decide) _ n _ (some ⟨g1, 0, none⟩) 1 1 [.int .i64 (k : Int)] rfl rfl (fun h => by cases h) (ownV_below (ownV_below HOW.out.row (hd.out _)) hb1.out) (rdv_blk hg1.out (by simp) (by omega)) (by simp [Value.oneCell']) (below_then HBD.out HBD.out.size hb1.out) (Nat.le_trans HBD.out.size hb1.out.size) (by omega) (by decide) (n + 1) rfl _ HE.out ?_; intro A7 c7 w7 hown7 hA7 hC7 hb7 hg7 _))
        go_roundw
        case rel => exact ⟨k + 1, n + 1, A7, c7, by omega, by go_num, rfl, by omega, Own.of_row hown7.out, hA7.out, hC7.out, hb7.out⟩
        case measure => simp [intOf]; omega
    · have e : k = xs.length := by have := HL.out.len; omega
      have hml : n = ((List.range k).filter (differ xs ys)).length := HOW.out.rd'.1
      have HPP : As ((List.range k).filter (differ xs ys) = punlikes xs ys) := ⟨by rw [punlikes, e]⟩
      clear hml e
      go_wp2_with fail
      go_ret
      exact ⟨A', n, c', rfl, by rw [← HPP.out]; exact HOW.out, HAA.out, HCC.out, HBL.out⟩
end Go.Proofs.Ytdcjionaedcfoaa.Solve
