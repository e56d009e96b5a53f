/- Walks of layer 7 (solve): omega. -/
import Derived.Test.YtdcjionaedcfoaaSolve6
set_option linter.unusedVariables false
set_option linter.unusedSimpArgs false
namespace Go.Proofs.Ytdcjionaedcfoaa.Solve
open Go.RowKit Go.Proofs.Ytdcjionaedcfoaa.L Go.Proofs.Ytdcjionaedcfoaa.Gf Go.Proofs.Ytdcjionaedcfoaa.Poly Go.Proofs.Ytdcjionaedcfoaa.Rs

/-- The first j terms of place i of the product of s and loc. -/
def omP (s loc : List UInt8) (i : Nat) : Nat → UInt8
  | 0 => 0
  | j + 1 => gadd [omP s loc i j, gmul [patI s (j : Int), patI loc ((i : Int) - j)]]
def omg (s loc : List UInt8) (i j t : Nat) : UInt8 := if t < i then omP s loc t (t + 1) else if t = i then omP s loc i j else 0
def pomega (s loc : List UInt8) (pp : Nat) : List UInt8 := (List.range pp).map (fun i => omP s loc i (i + 1))
theorem omg_start (s loc : List UInt8) (pp : Nat) : (List.range pp).map (omg s loc 0 0) = List.replicate pp 0 := by
  apply List.ext_getElem (by simp)
  intro t h1 h2
  simp only [List.getElem_map, List.getElem_range, List.getElem_replicate, omg, omP]
  rw [if_neg (by omega)]
  split <;> rfl
theorem omg_set (s loc : List UInt8) (pp i j : Nat) : ((List.range pp).map (omg s loc i j)).set i (omP s loc i (j + 1)) = (List.range pp).map (omg s loc i (j + 1)) := by
  apply List.ext_getElem (by simp)
  intro t h1 h2
  rw [List.getElem_set]
  simp only [List.getElem_map, List.getElem_range, omg]
  by_cases e : i = t
  · subst e; simp
  · rw [if_neg e]
    split
    · rfl
    · rw [if_neg (fun h => e h.symm), if_neg (fun h => e h.symm)]
theorem omg_next (s loc : List UInt8) (pp i : Nat) : (List.range pp).map (omg s loc i (i + 1)) = (List.range pp).map (omg s loc (i + 1) 0) := by
  apply List.map_congr_left
  intro t _
  unfold omg
  by_cases h1 : t < i
  · rw [if_pos h1, if_pos (by omega)]
  · rw [if_neg h1]
    by_cases h2 : t = i
    · subst h2; rw [if_pos rfl, if_pos (by omega)]
    · rw [if_neg h2, if_neg (by omega)]; split <;> rfl
theorem omg_end (s loc : List UInt8) (pp : Nat) : (List.range pp).map (omg s loc pp 0) = pomega s loc pp := by
  apply List.map_congr_left
  intro t ht
  rw [omg, if_pos (List.mem_range.1 ht)]
theorem omg_len (s loc : List UInt8) (pp i j : Nat) : ((List.range pp).map (omg s loc i j)).length = pp := by simp
theorem omg_at (s loc : List UInt8) (pp i j : Nat) (h : i < pp) : ((List.range pp).map (omg s loc i j))[i]? = some (omP s loc i j) := by
  simp [h, omg]
set_option maxRecDepth 100000 in
set_option maxHeartbeats 2000000 in
theorem omega_any (v p n pp : Nat) (V4 : Value) (A3 : Option Addr) (m3 c3 : Nat) (s loc : List UInt8) (w : World) (hs : LocAt w v p n pp (.slice A3 m3 c3) V4 loc) (hpp : pp ≤ 255) (hm : loc.length ≤ 1000) (hl3 : Rd B w A3 m3 s) :
    Calls Try.prog 206 #[.pointer (some ⟨v, 0, none⟩)] w (RetB w (pomega s loc pp)) := by
  obtain ⟨A5, m5, c5, hs5, ho5, hA5, hC5⟩ := hs
  have HS := As.mk hs5; clear hs5
  have HO := As.mk ho5
  have HL3 := As.mk hl3
  clear ho5 hA5 hC5 hl3
  obtain ⟨x0, x1, x2, x3, x4, x5, x6, x7⟩ := HS.out
  clear x7
  go_enter Try.func206, Try.ntmps206
  go_wp2_with (at_make; refine make_event w w.heap.size 39 5 (.int .u8 0) 1 _ _ pp rfl rfl Try.underlying39 info_u8 rfl rfl rfl (by omega) (by omega) (Below.refl _ _) (Nat.le_refl _) ?_; intro w3 HQ HB3 HB3' hsz)
  clear x0 x1 x2 x3 x4 x5 x6
  generalize hg : w.heap.size = g at *
  have HG := As.mk hg
  clear hg
  go_loopw [13] (fun i wr => ∃ (k : Nat), k ≤ pp ∧ i = .int .i64 k ∧ Own B 5 wr g (.slice (some ⟨g, 0, none⟩) pp pp) ((List.range pp).map (omg s loc k 0)) ∧ Below g w wr) (fun i _ => pp - (intOf i).toNat)
  case atStart => exact ⟨0, by omega, rfl, Own.of_row (by rw [omg_start, List.map_replicate]; exact HQ.out), HB3.out⟩
  case round =>
    obtain ⟨k, hk, rfl, hown, hbl⟩ := hrel
    have HOW := As.mk hown; clear hown
    have HBL := As.mk hbl; clear hbl
    clear HQ HB3 HB3' hsz
    by_cases hlt : k < pp
    · go_wp2_with fail
      go_loopw [18] (fun i wr => ∃ (j : Nat), j ≤ k + 1 ∧ i = .int .i64 j ∧ Own B 5 wr g (.slice (some ⟨g, 0, none⟩) pp pp) ((List.range pp).map (omg s loc k j)) ∧ Below g w wr) (fun i _ => k + 1 - (intOf i).toNat)
      case atStart => exact ⟨0, by omega, rfl, HOW.out, HBL.out⟩
      case round =>
        clear HOW HBL
        obtain ⟨j, hj, rfl, hown, hbl⟩ := hrel
        have HOW := As.mk hown; clear hown
        have HBL := As.mk hbl; clear hbl
        by_cases hlt2 : j < k + 1
        · have hlt2' : (j : Int) < (k : Int) + 1 := by omega
          have hE : omP s loc k (j + 1) = gadd [omP s loc k j, gmul [patI s (j : Int), patI loc ((k : Int) - j)]] := rfl
          have hat := omg_at s loc pp k j hlt
          have hset := omg_set s loc pp k j
          generalize hz : omP s loc k j = z at *
          rw [hE] at hset
          clear hE
          generalize hx : patI s (j : Int) = x at *
          have HX := As.mk hx; clear hx
          generalize hy : patI loc ((k : Int) - j) = y at *
          have HY := As.mk hy; clear hy
          have HAT := As.mk hat; clear hat
          have HSE := As.mk hset; clear hset
          clear hz
          go_wp2_with fail
          have q1 : IntKind.i64.wrap ((k : Int) - j) = (k : Int) - j := IntWalk.i64_in _ (by omega)
          refine regionT [0, 1, 2, 3, 4, 5, 6, 7, 8, 9, 10, 11, 12, 13, 14, 15, 16, 17, 18, 20, 21, 22, 23, 24, 25, 26, 19, 27, 28, 29, 30, 31, 32, 33] mixed (by kernel_rfl) (by decide) (by kernel_rfl) ?_
          intro wd hd hds
          have HBD : As (Below g w wd) := ⟨HBL.out.trans (hd.out _)⟩
          have HBW : As (Below w.heap.size w wd) := ⟨HG.out.symm ▸ HBD.out⟩
          have HOD : As (Own B 5 wd g (.slice (some ⟨g, 0, none⟩) pp pp) ((List.range pp).map (omg s loc k j))) := ⟨HOW.out.below (hd.out _)⟩
          have HSD : As (SolAt wd v p n pp (.slice A3 m3 c3) V4 (.slice A5 m5 c5)) := ⟨HS.out.below HBW.out⟩
          have HLD3 : As (Rd B wd A3 m3 s) := ⟨HL3.out.below HBW.out⟩
          have HLD5 : As (Rd B wd A5 m5 loc) := ⟨HO.out.rd'.2.below HBW.out⟩
          obtain ⟨zz, hzz, hcz, hfz⟩ := HOD.out.at' k hlt
          have hzz2 : zz = z := by have := HAT.out; rw [hzz] at this; exact Option.some.inj this
          subst hzz2
          have HCX := As.mk hcz
          clear HOW HBL hd hds hzz hcz hfz
          iterate 5 (refine wpT_float rfl rfl rfl (fun w' => by go_simp; rfl) ?_; try simp only [Act.put, List.getElem_toArray, List.getElem_cons_zero, List.getElem_cons_succ, List.setIfInBounds_toArray, List.set_cons_zero, List.set_cons_succ])
          (refine wpT_load rfl rfl rfl rfl (fun w' hw' => by obtain ⟨x0, x1, x2, x3, x4, x5, _, _⟩ := HSD.out.below hw'; go_simp; rfl) ?_; try simp only [Act.put, List.getElem_toArray, List.getElem_cons_zero, List.getElem_cons_succ, List.setIfInBounds_toArray, List.set_cons_zero, List.set_cons_succ])
          iterate 3 (refine wpT_float rfl rfl rfl (fun w' => by go_simp; rfl) ?_; try simp only [Act.put, List.getElem_toArray, List.getElem_cons_zero, List.getElem_cons_succ, List.setIfInBounds_toArray, List.set_cons_zero, List.set_cons_succ])
          (refine wpT_load rfl rfl rfl rfl (fun w' hw' => by have hq : w'.cell? ⟨g, k, none⟩ = some (B zz) := (hw'.cell (p := ⟨g, k, none⟩) (World.block_lt_of_cell? _ _ HCX.out)).trans HCX.out; go_simp; rfl) ?_; try simp only [Act.put, List.getElem_toArray, List.getElem_cons_zero, List.getElem_cons_succ, List.setIfInBounds_toArray, List.set_cons_zero, List.set_cons_succ])
          iterate 3 (refine wpT_float rfl rfl rfl (fun w' => by go_simp; rfl) ?_; try simp only [Act.put, List.getElem_toArray, List.getElem_cons_zero, List.getElem_cons_succ, List.setIfInBounds_toArray, List.set_cons_zero, List.set_cons_succ])
          (refine wpT_load rfl rfl rfl rfl (fun w' hw' => by obtain ⟨x0, x1, x2, x3, x4, x5, _, _⟩ := HSD.out.below hw'; go_simp; rfl) ?_; try simp only [Act.put, List.getElem_toArray, List.getElem_cons_zero, List.getElem_cons_succ, List.setIfInBounds_toArray, List.set_cons_zero, List.set_cons_succ])
          iterate 3 (refine wpT_float rfl rfl rfl (fun w' => by go_simp; rfl) ?_; try simp only [Act.put, List.getElem_toArray, List.getElem_cons_zero, List.getElem_cons_succ, List.setIfInBounds_toArray, List.set_cons_zero, List.set_cons_succ])
          (refine wpT_load rfl rfl rfl rfl (fun w' hw' => by obtain ⟨x0, x1, x2, x3, x4, x5, _, _⟩ := HSD.out.below hw'; go_simp; rfl) ?_; try simp only [Act.put, List.getElem_toArray, List.getElem_cons_zero, List.getElem_cons_succ, List.setIfInBounds_toArray, List.set_cons_zero, List.set_cons_succ])
          iterate 4 (refine wpT_float rfl rfl rfl (fun w' => by go_simp; rfl) ?_; try simp only [Act.put, List.getElem_toArray, List.getElem_cons_zero, List.getElem_cons_succ, List.setIfInBounds_toArray, List.set_cons_zero, List.set_cons_succ])
          (refine wpT_load rfl rfl rfl rfl (fun w' hw' => by obtain ⟨x0, x1, x2, x3, x4, x5, _, _⟩ := HSD.out.below hw'; go_simp; rfl) ?_; try simp only [Act.put, List.getElem_toArray, List.getElem_cons_zero, List.getElem_cons_succ, List.setIfInBounds_toArray, List.set_cons_zero, List.set_cons_succ])
          iterate 3 (refine wpT_float rfl rfl rfl (fun w' => by go_simp; rfl) ?_; try simp only [Act.put, List.getElem_toArray, List.getElem_cons_zero, List.getElem_cons_succ, List.setIfInBounds_toArray, List.set_cons_zero, List.set_cons_succ])
          refine wpT_op rfl rfl rfl ?_
          go_simp
          refine (at_any A3 m3 c3 s (j : Int) _ HLD3.out).mono ?_
          rw [HX.out]
          rintro e w' ⟨rfl, rfl⟩
          refine ⟨Below.refl _ _, ?_⟩
          refine wpT_op rfl rfl rfl ?_
          go_simp
          refine (at_any A5 m5 c5 loc ((k : Int) - j) _ HLD5.out).mono ?_
          rw [HY.out]
          rintro e w' ⟨rfl, rfl⟩
          refine ⟨Below.refl _ _, ?_⟩
          refine wpT_lit 5 2 #[B x, B y] rfl rfl rfl (by go_simp) ?_
          intro g1 v1 hg1 hlg1 hb1
          try simp only [Act.put, List.getElem_toArray, List.getElem_cons_zero, List.getElem_cons_succ, List.setIfInBounds_toArray, List.set_cons_zero, List.set_cons_succ]
          refine wpT_op rfl rfl rfl ?_
          go_simp
          refine (mul_any p _ _ _ [x, y] _ (HSD.out.field.below hb1.out) (by simp) (rd_blk B [x, y] hg1.out (by simp))).mono ?_
          rintro e w' ⟨rfl, rfl⟩
          refine ⟨Below.refl _ _, ?_⟩
          refine wpT_lit 5 2 #[B zz, B (gmul [x, y])] rfl rfl rfl (by go_simp) ?_
          intro g2 v2 hg2 hlg2 hb2
          try simp only [Act.put, List.getElem_toArray, List.getElem_cons_zero, List.getElem_cons_succ, List.setIfInBounds_toArray, List.set_cons_zero, List.set_cons_succ]
          refine wpT_op rfl rfl rfl ?_
          go_simp
          refine (add_any _ _ _ _ [zz, gmul [x, y]] _ (by simp) (rd_blk B [zz, gmul [x, y]] hg2.out (by simp))).mono ?_
          rintro e w' ⟨rfl, rfl⟩
          refine ⟨Below.refl _ _, ?_⟩
          iterate 1 (refine wpT_float rfl rfl rfl (fun w' => by go_simp; rfl) ?_; try simp only [Act.put, List.getElem_toArray, List.getElem_cons_zero, List.getElem_cons_succ, List.setIfInBounds_toArray, List.set_cons_zero, List.set_cons_succ])
          have hs1 := hb1.out.size
          have hs2 := hb2.out.size
          have hsd : g ≤ wd.heap.size := by have := HBD.out.size; have := HG.out; omega
          have HOV : As (Own B 5 v2 g (.slice (some ⟨g, 0, none⟩) pp pp) ((List.range pp).map (omg s loc k j))) := ⟨(HOD.out.below hb1.out).below hb2.out⟩
          have HBV : As (Below g w v2) := ⟨(HBD.out.trans (hb1.out.mono hsd)).trans (hb2.out.mono (by omega))⟩
          obtain ⟨z', hz', hcz', hfz'⟩ := HOV.out.at' k hlt
          have hzz : z' = zz := by have := HAT.out; rw [hz'] at this; exact Option.some.inj this
          subst hzz
          clear hz' hs1 hs2 hsd
          refine wpT_last rfl rfl (by kernel_rfl) ?_
          have HOS : As (Own B 5 (v2.setCell ⟨g, k, none⟩ (B (gadd [z', gmul [x, y]]))) g (.slice (some ⟨g, 0, none⟩) pp pp) ((List.range pp).map (omg s loc k (j + 1)))) := ⟨by rw [← HSE.out]; exact HOV.out.set _ _⟩
          have HBS : As (Below g w (v2.setCell ⟨g, k, none⟩ (B (gadd [z', gmul [x, y]])))) := ⟨HBV.out.setCell (Nat.le_refl _) _⟩
          clear HOV HBV
          go_wp2_with fail
          refine NoPanic.normal ?_
          clear q1
          go_wp2_with fail
          go_roundw
          case rel => exact ⟨j + 1, by omega, by go_num, HOS.out, HBS.out⟩
          case measure => simp [intOf]; omega
        · have hlt2' : ¬ (j : Int) < (k : Int) + 1 := by omega
          have e : j = k + 1 := by omega
          subst e
          go_wp2_with fail
          go_roundw
          case rel => exact ⟨k + 1, by omega, by go_num, by rw [← omg_next]; exact HOW.out, HBL.out⟩
          case measure => simp [intOf]; omega
    · have e : k = pp := by omega
      subst e
      go_wp2_with fail
      go_ret
      refine ⟨some ⟨g, 0, none⟩, k, k, rfl, ?_, (fun h => by cases h), Nat.le_refl _, HG.out.symm ▸ HBL.out⟩
      rw [← omg_end, HG.out]
      exact HOW.out
end Go.Proofs.Ytdcjionaedcfoaa.Solve
