/- Walks of layer 7 (solve): slices.Reverse, high, value. -/
import Derived.Test.YtdcjionaedcfoaaSolve1
set_option linter.unusedVariables false
set_option linter.unusedSimpArgs false
namespace Go.Proofs.Ytdcjionaedcfoaa.Solve
open Go.RowKit Go.Proofs.Ytdcjionaedcfoaa.L Go.Proofs.Ytdcjionaedcfoaa.Gf Go.Proofs.Ytdcjionaedcfoaa.Poly Go.Proofs.Ytdcjionaedcfoaa.Rs

/-! ### Reverse -/
def Half (xs cur : List UInt8) (i : Nat) : Prop := cur.length = xs.length ∧ ∀ t, t < xs.length → cur[t]? = if t < i ∨ xs.length < i + t + 1 then xs[xs.length - 1 - t]? else xs[t]?
theorem Half.start (xs : List UInt8) : Half xs xs 0 := ⟨rfl, fun t ht => by rw [if_neg (by omega)]⟩
theorem Half.step {xs cur : List UInt8} {i : Nat} {x y : UInt8} (h : Half xs cur i) (hi : 2 * i + 1 < xs.length) (hx : cur[xs.length - 1 - i]? = some x) (hy : cur[i]? = some y) :
    Half xs ((cur.set i x).set (xs.length - 1 - i) y) (i + 1) := by
  obtain ⟨h1, h2⟩ := h
  refine ⟨by simp [h1], fun t ht => ?_⟩
  rw [h2 _ (by omega), if_neg (by omega)] at hx
  rw [h2 _ (by omega), if_neg (by omega)] at hy
  by_cases e1 : xs.length - 1 - i = t
  · rw [List.getElem?_set, if_pos e1, if_pos (by simp; omega), if_pos (by omega), ← hy]
    congr 1; omega
  · rw [List.getElem?_set, if_neg e1]
    by_cases e2 : i = t
    · rw [List.getElem?_set, if_pos e2, if_pos (by omega), if_pos (by omega), ← hx]
      congr 1; omega
    · rw [List.getElem?_set, if_neg e2, h2 t ht]
      by_cases e3 : t < i ∨ xs.length < i + t + 1
      · rw [if_pos e3, if_pos (by omega)]
      · rw [if_neg e3, if_neg (by omega)]
theorem Half.done {xs cur : List UInt8} {i : Nat} (h : Half xs cur i) (hi : xs.length ≤ 2 * i + 1) : cur = xs.reverse := by
  obtain ⟨h1, h2⟩ := h
  apply List.ext_getElem? 
  intro t
  by_cases ht : t < xs.length
  · rw [h2 t ht, List.getElem?_reverse ht]
    split
    · rfl
    · congr 1; omega
  · rw [List.getElem?_eq_none (by omega), List.getElem?_eq_none (by simp; omega)]
set_option maxRecDepth 100000 in
set_option maxHeartbeats 1000000 in
theorem reverse_any (base : Nat) (A : Option Addr) (n c : Nat) (xs : List UInt8) (w : World) (hn : n ≤ 140737488351232) (hown : Own B 5 w base (.slice A n c) xs) (hb : base ≤ w.heap.size) :
    Calls Try.prog 215 #[.slice A n c] w fun e w' => e = .returned (.tuple #[]) ∧ Own B 5 w' base (.slice A n c) xs.reverse ∧ Below base w w' := by
  have HO := As.mk hown; clear hown
  have HX := As.mk HO.out.rd'.1
  go_enter Try.func215, Try.ntmps215
  go_wp2_with fail
  go_loopw [2, 3] (fun i j wr => ∃ (k : Nat) (cur : List UInt8), k ≤ n ∧ i = .int .i64 k ∧ j = .int .i64 ((n : Int) - 1 - k) ∧ Own B 5 wr base (.slice A n c) cur ∧ Half xs cur k ∧ Below base w wr) (fun i _ _ => n - (intOf i).toNat)
  case atStart => exact ⟨0, xs, by omega, rfl, by go_num, HO.out, Half.start xs, Below.refl _ _⟩
  case round =>
    obtain ⟨k, cur, hk, rfl, rfl, hown, hh, hbl⟩ := hrel
    have HOW := As.mk hown; clear hown
    have HH := As.mk hh; clear hh
    have HBL := As.mk hbl; clear hbl
    by_cases hlt : (k : Int) < (n : Int) - 1 - k
    · obtain ⟨g, rfl, hg1, hg2, _, _⟩ := ownV_at HOW.out.row k (by omega)
      have HG := As.mk hg1
      clear hg1 hg2
      have hlen : As (cur.length = n) := ⟨HOW.out.rd'.1.symm⟩
      go_wp2_with fail
      have q0 : (0 : Int) ≤ (n : Int) - 1 - k := by omega
      have q1 : (n : Int) - 1 - k < n := by omega
      have q2 : ((n : Int) - 1 - k).toNat = n - 1 - k := by omega
      have q3 : k < n := by omega
      have q5 : (k : Int) ≤ (n : Int) - 1 := by omega
      have hj : n - 1 - k < n := by omega
      refine regionT [0, 1, 2, 3, 4, 5, 6, 7, 8, 9, 10, 11, 12, 13, 14, 15] mixed (by kernel_rfl) (by decide) (by kernel_rfl) ?_
      intro wd hd hds
      have HOD : As (Own B 5 wd base (.slice (some ⟨g, 0, none⟩) n c) cur) := ⟨HOW.out.below (hd.out _)⟩
      have HBD : As (Below base w wd) := ⟨HBL.out.trans (hd.out _)⟩
      obtain ⟨x, hx, hcx, _⟩ := HOD.out.at' (n - 1 - k) hj
      obtain ⟨y, hy, hcy, _⟩ := HOD.out.at' k q3
      have HCX := As.mk hcx
      have HCY := As.mk hcy
      have HHS : As (Half xs ((cur.set k x).set (n - 1 - k) y) (k + 1)) := ⟨by have e := HX.out; rw [e] at hx ⊢; exact HH.out.step (by omega) hx hy⟩
      clear hx hcx hy hcy hd HOW HBL HH
      iterate 7 (refine wpT_float rfl rfl rfl (fun w' => by go_simp; rfl) ?_; try simp only [Act.put, List.getElem_toArray, List.getElem_cons_zero, List.getElem_cons_succ, List.setIfInBounds_toArray, List.set_cons_zero, List.set_cons_succ])
      (refine wpT_load rfl rfl rfl rfl (fun w' hw' => by have hq : w'.cell? ⟨g, n - 1 - k, none⟩ = some (B x) := (hw'.cell (p := ⟨g, n - 1 - k, none⟩) (World.block_lt_of_cell? _ _ HCX.out)).trans HCX.out; go_simp; rfl) ?_; try simp only [Act.put, List.getElem_toArray, List.getElem_cons_zero, List.getElem_cons_succ, List.setIfInBounds_toArray, List.set_cons_zero, List.set_cons_succ])
      iterate 3 (refine wpT_float rfl rfl rfl (fun w' => by go_simp; rfl) ?_; try simp only [Act.put, List.getElem_toArray, List.getElem_cons_zero, List.getElem_cons_succ, List.setIfInBounds_toArray, List.set_cons_zero, List.set_cons_succ])
      (refine wpT_load rfl rfl rfl rfl (fun w' hw' => by have hq : w'.cell? ⟨g, k, none⟩ = some (B y) := (hw'.cell (p := ⟨g, k, none⟩) (World.block_lt_of_cell? _ _ HCY.out)).trans HCY.out; go_simp; rfl) ?_; try simp only [Act.put, List.getElem_toArray, List.getElem_cons_zero, List.getElem_cons_succ, List.setIfInBounds_toArray, List.set_cons_zero, List.set_cons_succ])
      iterate 1 (refine wpT_float rfl rfl rfl (fun w' => by go_simp; rfl) ?_; try simp only [Act.put, List.getElem_toArray, List.getElem_cons_zero, List.getElem_cons_succ, List.setIfInBounds_toArray, List.set_cons_zero, List.set_cons_succ])
      obtain ⟨z1, _, hz1, hf1⟩ := HOD.out.at' k q3
      have HO1 : As (Own B 5 (wd.setCell ⟨g, k, none⟩ (B x)) base (.slice (some ⟨g, 0, none⟩) n c) (cur.set k x)) := ⟨HOD.out.set _ _⟩
      have HB1 : As (Below base w (wd.setCell ⟨g, k, none⟩ (B x))) := ⟨HBD.out.setCell HG.out _⟩
      refine wpT_lastThen rfl rfl (by kernel_rfl) rfl ?_
      go_wp2_with fail
      change wpT _ _ _ _ _ _ _
      generalize wd.setCell ⟨g, k, none⟩ (B x) = w2 at *
      clear hz1 hf1
      iterate 1 (refine wpT_float rfl rfl rfl (fun w' => by go_simp; rfl) ?_; try simp only [Act.put, List.getElem_toArray, List.getElem_cons_zero, List.getElem_cons_succ, List.setIfInBounds_toArray, List.set_cons_zero, List.set_cons_succ])
      obtain ⟨z2, _, hz2, hf2⟩ := HO1.out.at' (n - 1 - k) hj
      have HOS : As (Own B 5 (w2.setCell ⟨g, n - 1 - k, none⟩ (B y)) base (.slice (some ⟨g, 0, none⟩) n c) ((cur.set k x).set (n - 1 - k) y)) := ⟨HO1.out.set _ _⟩
      have HBS : As (Below base w (w2.setCell ⟨g, n - 1 - k, none⟩ (B y))) := ⟨HB1.out.setCell HG.out _⟩
      refine wpT_last rfl rfl (by kernel_rfl) ?_
      go_wp2_with fail
      refine NoPanic.normal ?_
      try clear q0 q1 q2 q3 q5
      go_wp2_with fail
      go_roundw
      case rel => exact ⟨k + 1, _, by omega, by go_num, by go_num, HOS.out, HHS.out, HBS.out⟩
      case measure => simp [intOf]; omega
    · have hd : As (cur = xs.reverse) := ⟨HH.out.done (by have := HX.out; omega)⟩
      go_wp2_with fail
      go_end0
      exact ⟨rfl, by rw [← hd.out]; exact HOW.out, HBL.out⟩

/-! ### high, value -/
set_option maxRecDepth 100000 in
theorem high_any (A : Option Addr) (n c : Nat) (xs : List UInt8) (w : World) (hn : n ≤ 140737488351232) (hl : Rd B w A n xs) :
    Calls Try.prog 167 #[.slice A n c] w (RetB w xs.reverse) := by
  have HL := As.mk hl; clear hl
  have hL := HL.out.len
  go_enter Try.func167, Try.ntmps167
  go_wp2_with fail
  refine (clone_any A n c xs w hn HL.out).mono ?_
  rintro e w1 ⟨A1, m1, c1, rfl, hown1, hA1, hC1, hb1⟩
  have HO1 := As.mk hown1
  have HA1 := As.mk hA1
  have HC1 := As.mk hC1
  have HB1 := As.mk hb1
  have hm := hown1.rd'.1
  have hm' : m1 ≤ 140737488351232 := by omega
  have HM := As.mk hm'
  clear hown1 hA1 hC1 hb1 hm hm' hL
  go_wp2_with (go_at_call 215; refine (reverse_any w.heap.size A1 m1 c1 xs w1 HM.out HO1.out HB1.out.size).mono ?_; rintro e w2 ⟨rfl, hown2, hb2⟩; have HO2 := As.mk hown2; have HB2 := As.mk hb2; clear hown2 hb2)
  go_ret
  exact ⟨A1, m1, c1, rfl, HO2.out, HA1.out, HC1.out, HB1.out.trans HB2.out⟩
theorem value_any (v p n pp : Nat) (V3 V4 V5 : Value) (A : Option Addr) (m c : Nat) (xs : List UInt8) (x : UInt8) (w : World) (hs : SolAt w v p n pp V3 V4 V5) (hm : m ≤ 140737488351232) (hl : Rd B w A m xs) :
    Calls Try.prog 228 #[.pointer (some ⟨v, 0, none⟩), .slice A m c, B x] w fun e w' => e = .returned (B (peval xs.reverse x)) ∧ Below w.heap.size w w' := by
  have HS := As.mk hs; clear hs
  have HL := As.mk hl; clear hl
  generalize hy : peval xs.reverse x = y
  have HY := As.mk hy; clear hy
  go_enter Try.func228, Try.ntmps228
  go_wp2_with fail
  refine regionT [0, 1, 2, 3, 4, 6, 5, 7, 8] mixed (by kernel_rfl) (by decide) (by kernel_rfl) ?_
  intro wd hd hds
  have HSD : As (SolAt wd v p n pp V3 V4 V5) := ⟨HS.out.below (hd.out _)⟩
  have HLD : As (Rd B wd A m xs) := ⟨HL.out.below (hd.out _)⟩
  iterate 3 (refine wpT_float rfl rfl rfl (fun w' => by go_simp; rfl) ?_; try simp only [Act.put, List.getElem_toArray, List.getElem_cons_zero, List.getElem_cons_succ, List.setIfInBounds_toArray, List.set_cons_zero, List.set_cons_succ])
  (refine wpT_load rfl rfl rfl rfl (fun w' hw' => by obtain ⟨x0, x1, x2, x3, x4, x5, _, _⟩ := HSD.out.below hw'; go_simp; rfl) ?_; try simp only [Act.put, List.getElem_toArray, List.getElem_cons_zero, List.getElem_cons_succ, List.setIfInBounds_toArray, List.set_cons_zero, List.set_cons_succ])
  iterate 2 (refine wpT_float rfl rfl rfl (fun w' => by go_simp; rfl) ?_; try simp only [Act.put, List.getElem_toArray, List.getElem_cons_zero, List.getElem_cons_succ, List.setIfInBounds_toArray, List.set_cons_zero, List.set_cons_succ])
  refine wpT_op rfl rfl rfl ?_
  go_simp
  refine (high_any A m c xs wd hm HLD.out).mono ?_
  rintro e w1 ⟨A1, m1, c1, rfl, hown1, hA1, hC1, hb1⟩
  refine ⟨hb1, ?_⟩
  have HO1 := As.mk hown1
  have HB1 := As.mk hb1
  clear hown1 hA1 hC1 hb1
  refine wpT_op rfl rfl rfl ?_
  go_simp
  refine (eval_any p A1 m1 c1 xs.reverse x w1 (HSD.out.below HB1.out).field HO1.out.rd'.2).mono ?_
  rw [HY.out]
  rintro e w2 ⟨rfl, hb2⟩
  refine ⟨hb2, ?_⟩
  have HB2 := As.mk hb2
  clear hb2
  iterate 1 (refine wpT_float rfl rfl rfl (fun w' => by go_simp; rfl) ?_; try simp only [Act.put, List.getElem_toArray, List.getElem_cons_zero, List.getElem_cons_succ, List.setIfInBounds_toArray, List.set_cons_zero, List.set_cons_succ])
  refine wpT_done (NoPanic.normal ?_)
  go_wp2_with fail
  go_ret
  exact ⟨rfl, below_then (hd.out _) (hd.out 0).size (below_then HB1.out HB1.out.size HB2.out)⟩
end Go.Proofs.Ytdcjionaedcfoaa.Solve
