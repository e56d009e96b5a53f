/- Walks of layer 7 (solve): slices.Index and Contains at int; by, unlike. -/
import Derived.Test.YtdcjionaedcfoaaSolve7
set_option linter.unusedVariables false
set_option linter.unusedSimpArgs false
namespace Go.Proofs.Ytdcjionaedcfoaa.Solve
open Go.RowKit Go.Proofs.Ytdcjionaedcfoaa.L Go.Proofs.Ytdcjionaedcfoaa.Gf Go.Proofs.Ytdcjionaedcfoaa.Poly Go.Proofs.Ytdcjionaedcfoaa.Rs

/-! ### slices.Index, slices.Contains at int -/
set_option maxRecDepth 100000 in
theorem index_int (A : Option Addr) (n c : Nat) (xs : List Int) (x : Int) (w : World) (hl : Rd I w A n xs) :
    Calls Try.prog 242 #[.slice A n c, I x] w fun e w' => (∃ k : Nat, k < n ∧ x ∈ xs ∧ e = .returned (I k) ∧ w = w') ∨ (x ∉ xs ∧ e = .returned (I (-1)) ∧ w = w') := by
  have hle := hl.le
  have HL := As.mk hl; clear hl
  go_enter Try.func242, Try.ntmps242
  go_wp2_with fail
  go_loop [8] (fun i => ∃ k : Nat, k ≤ n ∧ i = .int .i64 k ∧ ∀ (j : Nat) (y : Int), j < k → xs[j]? = some y → x ≠ y) (fun i => n - (intOf i).toNat)
  case atStart => exact ⟨0, by omega, rfl, fun j y hj => by omega⟩
  case round =>
    obtain ⟨k, hk, rfl, hb⟩ := hrel
    by_cases hlt : k < n
    · obtain ⟨ad, rfl, z, hz, hc⟩ := HL.out.at_ k hlt
      by_cases hp : x = z
      · subst hp
        have H := As.mk (List.mem_of_getElem? hz)
        have e1 : (x == x) = true := by simp
        clear hz hb
        go_wp2_with fail
        go_ret
        exact .inl ⟨k, hlt, H.out, rfl, rfl⟩
      · have H : As (∀ (j : Nat) (y : Int), j < k + 1 → xs[j]? = some y → x ≠ y) := ⟨fun j y hj hy => by
          by_cases e : j = k
          · subst e; rw [hz] at hy; cases hy; exact hp
          · exact hb j y (by omega) hy⟩
        have e1 : (x == z) = false := by simpa using hp
        clear hz hb
        go_wp2_with fail
        go_round
        case rel => exact ⟨k + 1, by omega, by go_num, H.out⟩
        case measure => simp [intOf]; omega
    · have e : k = xs.length := by have := HL.out.len; omega
      have H : As (x ∉ xs) := ⟨fun hm => by
        obtain ⟨j, hj, he⟩ := List.getElem_of_mem hm
        exact hb j x (by omega) (by rw [List.getElem?_eq_getElem hj, he]) rfl⟩
      clear hb
      go_wp2
      go_ret
      exact .inr ⟨H.out, rfl, rfl⟩
set_option maxRecDepth 100000 in
theorem contains_int (A : Option Addr) (n c : Nat) (xs : List Int) (x : Int) (w : World) (hl : Rd I w A n xs) :
    Calls Try.prog 229 #[.slice A n c, I x] w fun e w' => e = .returned (.bool (decide (x ∈ xs))) ∧ w = w' := by
  have HL := As.mk hl; clear hl
  go_enter Try.func229, Try.ntmps229
  go_wp2_with fail
  refine (index_int A n c xs x w HL.out).mono ?_
  rintro e w' (⟨k, hk, hm, rfl, rfl⟩ | ⟨hm, rfl, rfl⟩)
  · have H := As.mk hm
    clear hm
    have e1 : decide ((0 : Int) ≤ (k : Int)) = true := decide_eq_true (by omega)
    go_wp2_with fail
    go_ret
    exact ⟨by rw [decide_eq_true H.out]; rfl, rfl⟩
  · have H := As.mk hm
    clear hm
    go_wp2_with fail
    go_ret
    exact ⟨by rw [decide_eq_false H.out]; rfl, rfl⟩
theorem rd_int {w : World} {A : Option Addr} {n : Nat} {er : List Nat} (h : Rd N w A n er) : Rd I w A n (er.map fun (i : Nat) => (i : Int)) := by
  unfold Rd at *
  rw [List.map_map]
  exact h
theorem rd_nat {w : World} {A : Option Addr} {n : Nat} {er : List Int} (h : Rd I w A n er) (hp : ∀ i ∈ er, 0 ≤ i) : Rd N w A n (er.map Int.toNat) := by
  unfold Rd at *
  rw [List.map_map]
  have : er.map (N ∘ Int.toNat) = er.map I := List.map_congr_left fun i hi => by simp [Int.toNat_of_nonneg (hp i hi)]
  rw [this]
  exact h

/-! ### unlike -/
def unlikeF (er : List Nat) : List Nat → Nat → Nat
  | [], a => a
  | i :: l, a => unlikeF er l (if i ∈ er then a else a + 1)
def punlike (er pl : List Nat) : Nat := unlikeF er pl 0
set_option maxRecDepth 100000 in
set_option maxHeartbeats 1000000 in
theorem unlike_any (v p n pp : Nat) (V3 V5 : Value) (A4 A : Option Addr) (m4 c4 m c : Nat) (er pl : List Nat) (w : World) (hs : SolAt w v p n pp V3 (.slice A4 m4 c4) V5) (hl4 : Rd N w A4 m4 er) (hl : Rd N w A m pl) :
    Calls Try.prog 205 #[.pointer (some ⟨v, 0, none⟩), .slice A m c] w fun e w' => e = .returned (N (punlike er pl)) ∧ w = w' := by
  have HL4 := As.mk (rd_int hl4); clear hl4
  have hle := hl.le
  have HL := As.mk hl; clear hl
  obtain ⟨x0, x1, x2, x3, x4, x5, x6, x7⟩ := hs
  clear x7 x0 x1 x2 x3 x5 x6
  go_enter Try.func205, Try.ntmps205
  go_wp2_with fail
  go_loop [5, 10] (fun o i => ∃ k a : Nat, k ≤ m ∧ a ≤ k ∧ i = .int .i64 k ∧ o = N a ∧ unlikeF er (pl.drop k) a = punlike er pl) (fun _ i => m - (intOf i).toNat)
  case atStart => exact ⟨0, 0, by omega, by omega, rfl, rfl, rfl⟩
  case round =>
    obtain ⟨k, a, hk, ha, rfl, rfl, hres⟩ := hrel
    by_cases hlt : k < m
    · obtain ⟨ad, rfl, i, hi, hc⟩ := HL.out.at_ k hlt
      rw [drop_at hi, unlikeF] at hres
      by_cases he : i ∈ er
      · rw [if_pos he] at hres
        have HR := As.mk hres
        have HD : As (decide ((i : Int) ∈ er.map fun (i : Nat) => (i : Int)) = true) := ⟨decide_eq_true (List.mem_map.2 ⟨i, he, rfl⟩)⟩
        clear hres he hi
        go_wp2_with (go_at_call 229; refine (contains_int A4 m4 c4 _ (i : Int) w HL4.out).mono ?_; rw [HD.out]; rintro e w' ⟨rfl, rfl⟩)
        go_round
        case rel => exact ⟨k + 1, a, by omega, by omega, by go_num, rfl, HR.out⟩
        case measure => simp [intOf]; omega
      · rw [if_neg he] at hres
        have HR := As.mk hres
        have HD : As (decide ((i : Int) ∈ er.map fun (i : Nat) => (i : Int)) = false) := ⟨decide_eq_false (fun h => by
          obtain ⟨j, hj, e⟩ := List.mem_map.1 h
          have : j = i := by omega
          subst this; exact he hj)⟩
        clear hres he hi
        go_wp2_with (go_at_call 229; refine (contains_int A4 m4 c4 _ (i : Int) w HL4.out).mono ?_; rw [HD.out]; rintro e w' ⟨rfl, rfl⟩)
        go_round
        case rel => exact ⟨k + 1, a + 1, by omega, by omega, by go_num, by go_num, HR.out⟩
        case measure => simp [intOf]; omega
    · have e : k = pl.length := by have := HL.out.len; omega
      rw [e, List.drop_length] at hres
      have HR := As.mk hres
      clear hres
      go_wp2_with fail
      go_ret
      exact ⟨by rw [← HR.out]; rfl, rfl⟩

/-! ### by -/
def pby (n : Nat) (om der : List UInt8) (i : Nat) : UInt8 × Bool :=
  if peval der.reverse (ginv (gexp ((n : Int) - 1 - i))) = 0 then (gmul [gexp ((n : Int) - 1 - i), 0], false)
  else (gmul [gexp ((n : Int) - 1 - i), gdiv (peval om.reverse (ginv (gexp ((n : Int) - 1 - i)))) (peval der.reverse (ginv (gexp ((n : Int) - 1 - i))))], true)
set_option maxRecDepth 100000 in
set_option maxHeartbeats 1000000 in
theorem by_any (v p n pp : Nat) (V3 V4 V5 : Value) (A A2 : Option Addr) (m c m2 c2 i : Nat) (om der : List UInt8) (w : World) (hs : SolAt w v p n pp V3 V4 V5) (hn : n ≤ 255) (hi : i < n) (hm : m ≤ 140737488351232) (hm2 : m2 ≤ 140737488351232) (hl : Rd B w A m om) (hl2 : Rd B w A2 m2 der) :
    Calls Try.prog 208 #[.pointer (some ⟨v, 0, none⟩), I i, .slice A m c, .slice A2 m2 c2] w fun e w' => e = .returned (.tuple #[B (pby n om der i).1, .bool (pby n om der i).2]) ∧ Below w.heap.size w w' := by
  have HS := As.mk hs; clear hs
  have HL := As.mk hl; clear hl
  have HL2 := As.mk hl2; clear hl2
  have hpb : pby n om der i = pby n om der i := rfl
  conv at hpb => rhs; unfold pby
  generalize hx : gexp ((n : Int) - 1 - i) = x at hpb
  have hx0 : x ≠ 0 := by rw [← hx]; exact gexp_ne _
  have HX := As.mk hx
  have HX0 := As.mk hx0
  clear hx hx0
  generalize hy : peval om.reverse (ginv x) = y at hpb
  generalize hd : peval der.reverse (ginv x) = d at hpb
  have HY := As.mk hy
  have HD := As.mk hd
  clear hy hd
  go_enter Try.func208, Try.ntmps208
  go_wp2_with (go_at_call 203; refine (place_any v p n pp _ _ _ i w HS.out hn hi).mono ?_; rw [HX.out]; rintro e w1 ⟨rfl, hb1⟩; have HB1 := As.mk hb1; clear hb1; obtain ⟨x0, x1, x2, x3, x4, x5, x6, x7⟩ := HS.out.below HB1.out; clear x7)
  refine (inv_any p x w1 (HS.out.below HB1.out).field HX0.out).mono ?_
  rintro e w1' ⟨rfl, rfl⟩
  clear x0 x1 x2 x3 x4 x5 x6
  go_wp2_with fail
  by_cases h0 : d = 0
  · subst h0
    rw [if_pos rfl] at hpb
    have HP := As.mk hpb
    clear hpb
    refine regionT [0, 1, 2, 3, 4, 5, 6, 8, 9, 10, 7, 11, 12, 13, 14, 15, 16, 17] mixed (by kernel_rfl) (by decide) (by kernel_rfl) ?_
    intro wd hd hds
    have HBD : As (Below w1.heap.size w1 wd) := ⟨hd.out _⟩
    have HSD : As (SolAt wd v p n pp V3 V4 V5) := ⟨(HS.out.below HB1.out).below HBD.out⟩
    have HLD : As (Rd B wd A m om) := ⟨(HL.out.below HB1.out).below HBD.out⟩
    have HLD2 : As (Rd B wd A2 m2 der) := ⟨(HL2.out.below HB1.out).below HBD.out⟩
    clear hd hds
    iterate 3 (refine wpT_float rfl rfl rfl (fun w' => by go_simp; rfl) ?_; try simp only [Act.put, List.getElem_toArray, List.getElem_cons_zero, List.getElem_cons_succ, List.setIfInBounds_toArray, List.set_cons_zero, List.set_cons_succ])
    (refine wpT_load rfl rfl rfl rfl (fun w' hw' => by obtain ⟨x0, x1, x2, x3, x4, x5, _, _⟩ := HSD.out.below hw'; go_simp; rfl) ?_; try simp only [Act.put, List.getElem_toArray, List.getElem_cons_zero, List.getElem_cons_succ, List.setIfInBounds_toArray, List.set_cons_zero, List.set_cons_succ])
    iterate 6 (refine wpT_float rfl rfl rfl (fun w' => by go_simp; rfl) ?_; try simp only [Act.put, List.getElem_toArray, List.getElem_cons_zero, List.getElem_cons_succ, List.setIfInBounds_toArray, List.set_cons_zero, List.set_cons_succ])
    refine wpT_op rfl rfl rfl ?_
    go_simp
    refine (value_any v p n pp _ _ _ A m c om (ginv x) wd HSD.out hm HLD.out).mono ?_
    rw [HY.out]
    rintro e w4 ⟨rfl, hb4⟩
    refine ⟨hb4, ?_⟩
    have HB4 := As.mk hb4
    clear hb4
    refine wpT_op rfl rfl rfl ?_
    go_simp
    refine (value_any v p n pp _ _ _ A2 m2 c2 der (ginv x) w4 (HSD.out.below HB4.out) hm2 (HLD2.out.below HB4.out)).mono ?_
    rw [HD.out]
    rintro e w5 ⟨rfl, hb5⟩
    refine ⟨hb5, ?_⟩
    have HB5 : As (Below wd.heap.size wd w5) := ⟨below_then HB4.out HB4.out.size hb5⟩
    clear hb5
    refine wpT_op rfl rfl rfl ?_
    go_simp
    refine (div_zero (some ⟨p, 0, none⟩) y w5).mono ?_
    rintro e w5' ⟨rfl, rfl⟩
    refine ⟨Below.refl _ _, ?_⟩
    iterate 5 (refine wpT_float rfl rfl rfl (fun w' => by go_simp; rfl) ?_; try simp only [Act.put, List.getElem_toArray, List.getElem_cons_zero, List.getElem_cons_succ, List.setIfInBounds_toArray, List.set_cons_zero, List.set_cons_succ])
    refine wpT_done (NoPanic.normal ?_)
    obtain ⟨x0, x1, x2, x3, x4, x5, x6, x7⟩ := HSD.out.below HB5.out
    clear x7
    go_wp2_with (first | ((with_reducible show wpList _ _ _ ({ dst := some 49, op := _, type := _, pos := _, after := _, guard := _ } :: _) _ _); refine lit_event 5 2 #[B x, B 0] rfl (by go_simp) ?_; intro g1 v1 hg1 _ hb1) | (go_at_call 90; refine (mul_any p _ _ _ [x, 0] _ ((HSD.out.below HB5.out).below hb1.out).field (by simp) (rd_blk B [x, 0] hg1.out (by simp))).mono ?_; rintro e w' ⟨rfl, rfl⟩))
    go_ret2
    exact ⟨by rw [HP.out]; rfl, below_then (below_then (below_then HB1.out HB1.out.size HBD.out) (Nat.le_trans HB1.out.size HBD.out.size) HB5.out) (Nat.le_trans (Nat.le_trans HB1.out.size HBD.out.size) HB5.out.size) hb1.out⟩
  · rw [if_neg h0] at hpb
    have HP := As.mk hpb
    have H0 := As.mk h0
    clear hpb h0
    refine regionT [0, 1, 2, 3, 4, 5, 6, 8, 9, 10, 7, 11, 12, 13, 14, 15, 16, 17] mixed (by kernel_rfl) (by decide) (by kernel_rfl) ?_
    intro wd hd hds
    have HBD : As (Below w1.heap.size w1 wd) := ⟨hd.out _⟩
    have HSD : As (SolAt wd v p n pp V3 V4 V5) := ⟨(HS.out.below HB1.out).below HBD.out⟩
    have HLD : As (Rd B wd A m om) := ⟨(HL.out.below HB1.out).below HBD.out⟩
    have HLD2 : As (Rd B wd A2 m2 der) := ⟨(HL2.out.below HB1.out).below HBD.out⟩
    clear hd hds
    iterate 3 (refine wpT_float rfl rfl rfl (fun w' => by go_simp; rfl) ?_; try simp only [Act.put, List.getElem_toArray, List.getElem_cons_zero, List.getElem_cons_succ, List.setIfInBounds_toArray, List.set_cons_zero, List.set_cons_succ])
    (refine wpT_load rfl rfl rfl rfl (fun w' hw' => by obtain ⟨x0, x1, x2, x3, x4, x5, _, _⟩ := HSD.out.below hw'; go_simp; rfl) ?_; try simp only [Act.put, List.getElem_toArray, List.getElem_cons_zero, List.getElem_cons_succ, List.setIfInBounds_toArray, List.set_cons_zero, List.set_cons_succ])
    iterate 6 (refine wpT_float rfl rfl rfl (fun w' => by go_simp; rfl) ?_; try simp only [Act.put, List.getElem_toArray, List.getElem_cons_zero, List.getElem_cons_succ, List.setIfInBounds_toArray, List.set_cons_zero, List.set_cons_succ])
    refine wpT_op rfl rfl rfl ?_
    go_simp
    refine (value_any v p n pp _ _ _ A m c om (ginv x) wd HSD.out hm HLD.out).mono ?_
    rw [HY.out]
    rintro e w4 ⟨rfl, hb4⟩
    refine ⟨hb4, ?_⟩
    have HB4 := As.mk hb4
    clear hb4
    refine wpT_op rfl rfl rfl ?_
    go_simp
    refine (value_any v p n pp _ _ _ A2 m2 c2 der (ginv x) w4 (HSD.out.below HB4.out) hm2 (HLD2.out.below HB4.out)).mono ?_
    rw [HD.out]
    rintro e w5 ⟨rfl, hb5⟩
    refine ⟨hb5, ?_⟩
    have HB5 : As (Below wd.heap.size wd w5) := ⟨below_then HB4.out HB4.out.size hb5⟩
    clear hb5
    refine wpT_op rfl rfl rfl ?_
    go_simp
    refine (div_any p y d w5 ((HSD.out.below HB5.out).field) H0.out).mono ?_
    rintro e w6 ⟨rfl, hb6⟩
    refine ⟨hb6, ?_⟩
    have HB6 : As (Below wd.heap.size wd w6) := ⟨below_then HB5.out HB5.out.size hb6⟩
    clear hb6
    iterate 5 (refine wpT_float rfl rfl rfl (fun w' => by go_simp; rfl) ?_; try simp only [Act.put, List.getElem_toArray, List.getElem_cons_zero, List.getElem_cons_succ, List.setIfInBounds_toArray, List.set_cons_zero, List.set_cons_succ])
    refine wpT_done (NoPanic.normal ?_)
    obtain ⟨x0, x1, x2, x3, x4, x5, x6, x7⟩ := HSD.out.below HB6.out
    clear x7
    go_wp2_with (first | ((with_reducible show wpList _ _ _ ({ dst := some 49, op := _, type := _, pos := _, after := _, guard := _ } :: _) _ _); refine lit_event 5 2 #[B x, B (gdiv y d)] rfl (by go_simp) ?_; intro g1 v1 hg1 _ hb1) | (go_at_call 90; refine (mul_any p _ _ _ [x, gdiv y d] _ ((HSD.out.below HB6.out).below hb1.out).field (by simp) (rd_blk B [x, gdiv y d] hg1.out (by simp))).mono ?_; rintro e w' ⟨rfl, rfl⟩))
    go_ret2
    exact ⟨by rw [HP.out]; rfl, below_then (below_then (below_then HB1.out HB1.out.size HBD.out) (Nat.le_trans HB1.out.size HBD.out.size) HB6.out) (Nat.le_trans (Nat.le_trans HB1.out.size HBD.out.size) HB6.out.size) hb1.out⟩
end Go.Proofs.Ytdcjionaedcfoaa.Solve
