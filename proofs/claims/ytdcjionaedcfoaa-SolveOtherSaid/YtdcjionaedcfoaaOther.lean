/- Walks of layer 7 (solve): the other way: low, told. -/
import Derived.Test.YtdcjionaedcfoaaSolve13
import Derived.Test.YtdcjionaedcfoaaPoly5
import Derived.Test.YtdcjionaedcfoaaSug
set_option linter.unusedVariables false
set_option linter.unusedSimpArgs false
namespace Go.Proofs.Ytdcjionaedcfoaa.Solve
open Go.RowKit Go.Proofs.Ytdcjionaedcfoaa.L Go.Proofs.Ytdcjionaedcfoaa.Gf Go.Proofs.Ytdcjionaedcfoaa.Poly Go.Proofs.Ytdcjionaedcfoaa.Rs Go.Proofs.Ytdcjionaedcfoaa.Range

theorem rdl_two {w : World} {g : Nat} {A A2 : Option Addr} {m c m2 c2 : Nat} {xs ys : List UInt8} {t : TypeId} (h : w.heap[g]? = some (.cells #[.slice A m c, .slice A2 m2 c2] t (0, 0))) (h1 : Rd B w A m xs) (k1 : m ≤ c) (n1 : A = none → c = 0)
    (h2 : Rd B w A2 m2 ys) (k2 : m2 ≤ c2) (n2 : A2 = none → c2 = 0) : RdL w (some ⟨g, 0, none⟩) 2 [xs, ys] := by
  refine ⟨[.slice A m c, .slice A2 m2 c2], rdv_blk (n := 2) h (by simp) (by omega), rfl, fun i l hi => ?_⟩
  match i, hi with
  | 0, hi => cases hi; exact ⟨A, c, by rw [h1.len]; rfl, ⟨by rw [h1.len]; exact k1, n1⟩, by rw [h1.len]; exact h1⟩
  | 1, hi => cases hi; exact ⟨A2, c2, by rw [h2.len]; rfl, ⟨by rw [h2.len]; exact k2, n2⟩, by rw [h2.len]; exact h2⟩
theorem lens_two (xs ys : List UInt8) : lens [xs, ys] = xs.length + ys.length := by simp [lens]
theorem plow_take (xs : List UInt8) (k m : Nat) (h : min m xs.length ≤ k) (hk : k ≤ m) : xs.reverse.take k = plow xs m := by
  unfold plow
  apply List.ext_getElem?
  intro i
  rw [List.getElem?_take, List.getElem?_take]
  by_cases h1 : i < k
  · rw [if_pos h1, if_pos (by omega)]
  · rw [if_neg h1]
    split
    · rw [List.getElem?_eq_none (by simp; omega)]
    · rfl
set_option maxRecDepth 100000 in
theorem low_any (A : Option Addr) (n c m : Nat) (xs : List UInt8) (w : World) (hn : n ≤ 1000000) (hm : m ≤ 1000000) (hl : Rd B w A n xs) :
    Calls Try.prog 214 #[.slice A n c, I m] w (RetB w (plow xs m)) := by
  have HL := As.mk hl; clear hl
  have hln := HL.out.len
  go_enter Try.func214, Try.ntmps214
  go_wp2_with fail
  refine (high_any A n c xs w (by omega) HL.out).mono ?_
  rintro e w1 ⟨A1, n1, c1, rfl, hown, hA1, hC1, hb⟩
  have hn1 : n1 = n := by have := hown.rd'.1; simp at this; omega
  subst hn1
  have HO := As.mk hown
  have HA1 := As.mk hA1
  have HC1 := As.mk hC1
  have HB := As.mk hb
  have HN := As.mk hln
  clear hown hA1 hC1 hb hln
  go_wp2_with fail
  go_loop [5] (fun o => ∃ k : Nat, k ≤ n1 ∧ min m n1 ≤ k ∧ o = .slice A1 k c1) (fun o => match o with | .slice _ k _ => k | _ => 0)
  case atStart => exact ⟨n1, by omega, by omega, rfl⟩
  case round =>
    obtain ⟨k, hk, hmk, rfl⟩ := hrel
    have hrel : k ≤ n1 ∧ min m n1 ≤ k := ⟨hk, hmk⟩
    by_cases hlt : m < k
    · have e1 : decide ((m : Int) < (k : Int)) = true := decide_eq_true (by omega)
      obtain ⟨k', rfl⟩ : ∃ k', k = k' + 1 := ⟨k - 1, by omega⟩
      have q1 : ((k' + 1 : Nat) : Int) - 1 = (k' : Int) := by omega
      have hkc : k' ≤ c1 := by have := HC1.out; omega
      go_wp2_with fail
      go_round
      case rel => exact ⟨k', by omega, by omega, rfl⟩
      case measure => simp
    · have e1 : decide ((m : Int) < (k : Int)) = false := decide_eq_false (by omega)
      have HTK : As (xs.reverse.take k = plow xs m) := ⟨plow_take xs k m (by rw [HN.out]; exact hmk) (by omega)⟩
      go_wp2_with fail
      go_ret
      have hmk2 : min m n1 ≤ k := hmk
      refine ⟨A1, k, c1, rfl, ?_, HA1.out, by have := HC1.out; omega, HB.out⟩
      rw [← HTK.out]
      have ho : w1.ownsRow w.heap.size 5 1 (.slice A1 n1 c1) n1 (xs.reverse.map B) := by
        have h := HO.out
        unfold L.Own at h
        rw [List.length_reverse, HN.out] at h
        exact h
      unfold L.Own
      by_cases hA : A1 = none
      · have h0 := HA1.out hA
        have := HC1.out
        have hn0 : n1 = 0 := by omega
        have hk0 : k = 0 := by omega
        subst hA; subst hk0; subst h0
        simpa using ownV_nil w1 w.heap.size 5 1
      · have h2 := ownV_shrink ho hA hrel.1
        rw [← List.map_take] at h2
        have e : (xs.reverse.take k).length = k := by
          rw [List.length_take, List.length_reverse, HN.out]; have := hrel.1; omega
        rw [e]; exact h2
set_option maxRecDepth 100000 in
set_option maxHeartbeats 1000000 in
theorem told_any (v p n pp : Nat) (V4 : Value) (A3 A5 : Option Addr) (m3 c3 m5 c5 : Nat) (s loc : List UInt8) (w : World) (hs : SolAt w v p n pp (.slice A3 m3 c3) V4 (.slice A5 m5 c5)) (hm3 : m3 ≤ 1000) (hm5 : m5 ≤ 1000) (hpp : pp ≤ 64) (hl : Rd B w A3 m3 s) (hl5 : Rd B w A5 m5 loc) :
    Calls Try.prog 166 #[.pointer (some ⟨v, 0, none⟩)] w (RetB w (ptold s loc pp)) := by
  have HS := As.mk hs; clear hs
  have HL := As.mk hl; clear hl
  have HL5 := As.mk hl5; clear hl5
  have HT : As (ptold s loc pp = trim (plow (pmul [s.reverse, loc.reverse]) pp).reverse) := ⟨rfl⟩
  go_enter Try.func166, Try.ntmps166
  go_wp2_with fail
  refine regionT [0, 1, 2, 3, 4, 5, 6, 7, 9, 10, 11, 12, 16, 17, 18, 19, 8, 13, 14, 15, 20, 21, 22, 23] mixed (by kernel_rfl) (by decide) (by kernel_rfl) ?_
  intro wd hd hds
  have HBD : As (Below w.heap.size w wd) := ⟨hd.out _⟩
  have HSD : As (SolAt wd v p n pp (.slice A3 m3 c3) V4 (.slice A5 m5 c5)) := ⟨HS.out.below HBD.out⟩
  have HL3 : As (Rd B wd A3 m3 s) := ⟨HL.out.below HBD.out⟩
  have HL5D : As (Rd B wd A5 m5 loc) := ⟨HL5.out.below HBD.out⟩
  have hs3 := HL.out.len
  have hs5 := HL5.out.len
  clear hd hds
  iterate 3 (refine wpT_float rfl rfl rfl (fun w' => by go_simp; rfl) ?_; try simp only [Act.put, List.getElem_toArray, List.getElem_cons_zero, List.getElem_cons_succ, List.setIfInBounds_toArray, List.set_cons_zero, List.set_cons_succ])
  (refine wpT_load rfl rfl rfl rfl (fun w' hw' => by obtain ⟨x0, x1, x2, x3, x4, x5, _, _⟩ := HSD.out.below hw'; go_simp; rfl) ?_; try simp only [Act.put, List.getElem_toArray, List.getElem_cons_zero, List.getElem_cons_succ, List.setIfInBounds_toArray, List.set_cons_zero, List.set_cons_succ])
  iterate 3 (refine wpT_float rfl rfl rfl (fun w' => by go_simp; rfl) ?_; try simp only [Act.put, List.getElem_toArray, List.getElem_cons_zero, List.getElem_cons_succ, List.setIfInBounds_toArray, List.set_cons_zero, List.set_cons_succ])
  (refine wpT_load rfl rfl rfl rfl (fun w' hw' => by obtain ⟨x0, x1, x2, x3, x4, x5, _, _⟩ := HSD.out.below hw'; go_simp; rfl) ?_; try simp only [Act.put, List.getElem_toArray, List.getElem_cons_zero, List.getElem_cons_succ, List.setIfInBounds_toArray, List.set_cons_zero, List.set_cons_succ])
  iterate 3 (refine wpT_float rfl rfl rfl (fun w' => by go_simp; rfl) ?_; try simp only [Act.put, List.getElem_toArray, List.getElem_cons_zero, List.getElem_cons_succ, List.setIfInBounds_toArray, List.set_cons_zero, List.set_cons_succ])
  (refine wpT_load rfl rfl rfl rfl (fun w' hw' => by obtain ⟨x0, x1, x2, x3, x4, x5, _, _⟩ := HSD.out.below hw'; go_simp; rfl) ?_; try simp only [Act.put, List.getElem_toArray, List.getElem_cons_zero, List.getElem_cons_succ, List.setIfInBounds_toArray, List.set_cons_zero, List.set_cons_succ])
  iterate 3 (refine wpT_float rfl rfl rfl (fun w' => by go_simp; rfl) ?_; try simp only [Act.put, List.getElem_toArray, List.getElem_cons_zero, List.getElem_cons_succ, List.setIfInBounds_toArray, List.set_cons_zero, List.set_cons_succ])
  (refine wpT_load rfl rfl rfl rfl (fun w' hw' => by obtain ⟨x0, x1, x2, x3, x4, x5, _, _⟩ := HSD.out.below hw'; go_simp; rfl) ?_; try simp only [Act.put, List.getElem_toArray, List.getElem_cons_zero, List.getElem_cons_succ, List.setIfInBounds_toArray, List.set_cons_zero, List.set_cons_succ])
  refine wpT_op rfl rfl rfl ?_
  go_simp
  refine (high_any A3 m3 c3 s wd (by omega) HL3.out).mono ?_
  rintro e w6 ⟨A6, n6, c6, rfl, hown6, hA6, hC6, hb6⟩
  refine ⟨hb6, ?_⟩
  have HO6 := As.mk hown6
  have HA6 := As.mk hA6
  have HC6 := As.mk hC6
  have HB6 := As.mk hb6
  have hn6 := hown6.rd'.1
  have HN6 := As.mk hn6
  clear hown6 hA6 hC6 hb6 hn6
  try simp only [Act.put, List.getElem_toArray, List.getElem_cons_zero, List.getElem_cons_succ, List.setIfInBounds_toArray, List.set_cons_zero, List.set_cons_succ]
  refine wpT_op rfl rfl rfl ?_
  go_simp
  refine (high_any A5 m5 c5 loc w6 (by omega) (HL5D.out.below HB6.out)).mono ?_
  rintro e w7 ⟨A7, n7, c7, rfl, hown7, hA7, hC7, hb7⟩
  refine ⟨hb7, ?_⟩
  have HO7 := As.mk hown7
  have HA7 := As.mk hA7
  have HC7 := As.mk hC7
  have HB7 := As.mk hb7
  have hn7 := hown7.rd'.1
  have HN7 := As.mk hn7
  clear hown7 hA7 hC7 hb7 hn7
  try simp only [Act.put, List.getElem_toArray, List.getElem_cons_zero, List.getElem_cons_succ, List.setIfInBounds_toArray, List.set_cons_zero, List.set_cons_succ]
  refine wpT_lit 39 2 #[.slice A6 n6 c6, .slice A7 n7 c7] rfl rfl rfl (by go_simp) ?_
  intro g1 v1 hg1 hlg1 hb1
  try simp only [Act.put, List.getElem_toArray, List.getElem_cons_zero, List.getElem_cons_succ, List.setIfInBounds_toArray, List.set_cons_zero, List.set_cons_succ]
  have HS1 : As (SolAt v1 v p n pp (.slice A3 m3 c3) V4 (.slice A5 m5 c5)) := ⟨((HSD.out.below HB6.out).below HB7.out).below hb1.out⟩
  have HRL : As (RdL v1 (some ⟨g1, 0, none⟩) 2 [s.reverse, loc.reverse]) := ⟨rdl_two hg1.out (by have := ((HO6.out.below HB7.out).below hb1.out).rd'.2; rw [HN6.out]; rw [HN6.out] at this; exact this) HC6.out HA6.out (by have := (HO7.out.below hb1.out).rd'.2; exact this) HC7.out HA7.out⟩
  have HB1 : As (Below w.heap.size w v1) := ⟨below_then (below_then (below_then HBD.out HBD.out.size HB6.out) (by have := HB6.out.size; have := HBD.out.size; omega) HB7.out) (by have := HB6.out.size; have := HBD.out.size; have := HB7.out.size; omega) hb1.out⟩
  have hlp := mul2_len s.reverse loc.reverse
  rw [List.length_reverse, List.length_reverse] at hlp
  refine wpT_op rfl rfl rfl ?_
  go_simp
  refine (mulL_any p _ 2 2 [s.reverse, loc.reverse] v1 HS1.out.field (by omega) (by rw [lens_two]; simp; omega) HRL.out).mono ?_
  rintro e w8 ⟨A8, n8, c8, rfl, hown8, hA8, hC8, hb8⟩
  refine ⟨hb8, ?_⟩
  have HO8 := As.mk hown8
  have HA8 := As.mk hA8
  have HC8 := As.mk hC8
  have HB8 := As.mk hb8
  have hn8 := hown8.rd'.1
  have HN8 := As.mk hn8
  clear hown8 hA8 hC8 hb8 hn8
  have HS8 : As (SolAt w8 v p n pp (.slice A3 m3 c3) V4 (.slice A5 m5 c5)) := ⟨HS1.out.below HB8.out⟩
  have HB08 : As (Below w.heap.size w w8) := ⟨below_then HB1.out HB1.out.size HB8.out⟩
  have hn8 : n8 ≤ 10000 := by rw [HN8.out]; omega
  try simp only [Act.put, List.getElem_toArray, List.getElem_cons_zero, List.getElem_cons_succ, List.setIfInBounds_toArray, List.set_cons_zero, List.set_cons_succ]
  refine wpT_op rfl rfl rfl ?_
  go_simp
  refine (low_any A8 n8 c8 pp _ w8 (by omega) (by omega) HO8.out.rd'.2).mono ?_
  rintro e w9 ⟨A9, n9, c9, rfl, hown9, hA9, hC9, hb9⟩
  refine ⟨hb9, ?_⟩
  have HO9 := As.mk hown9
  have HA9 := As.mk hA9
  have HC9 := As.mk hC9
  have HB9 := As.mk hb9
  have hn9 := hown9.rd'.1
  have HN9 := As.mk hn9
  clear hown9 hA9 hC9 hb9 hn9
  have HB09 : As (Below w.heap.size w w9) := ⟨below_then HB08.out HB08.out.size HB9.out⟩
  have hn9 : n9 ≤ 64 := by rw [HN9.out, plow, List.length_take]; omega
  try simp only [Act.put, List.getElem_toArray, List.getElem_cons_zero, List.getElem_cons_succ, List.setIfInBounds_toArray, List.set_cons_zero, List.set_cons_succ]
  refine wpT_op rfl rfl rfl ?_
  go_simp
  refine (high_any A9 n9 c9 _ w9 (by omega) HO9.out.rd'.2).mono ?_
  rintro e w10 ⟨A10, n10, c10, rfl, hown10, hA10, hC10, hb10⟩
  refine ⟨hb10, ?_⟩
  have HO10 := As.mk hown10
  have HA10 := As.mk hA10
  have HC10 := As.mk hC10
  have HB10 := As.mk hb10
  have hn10 := hown10.rd'.1
  have HN10 := As.mk hn10
  clear hown10 hA10 hC10 hb10 hn10
  have HB10 : As (Below w.heap.size w w10) := ⟨below_then HB09.out HB09.out.size HB10.out⟩
  have hn10 : n10 ≤ 64 := by rw [HN10.out, List.length_reverse, plow, List.length_take]; omega
  try simp only [Act.put, List.getElem_toArray, List.getElem_cons_zero, List.getElem_cons_succ, List.setIfInBounds_toArray, List.set_cons_zero, List.set_cons_succ]
  refine wpT_op rfl rfl rfl ?_
  go_simp
  refine (trim_any A10 n10 c10 _ w10 (by omega) HC10.out HO10.out.rd'.2).mono ?_
  rintro e w11 ⟨A11, n11, c11, rfl, hown11, hA11, hC11, hb11⟩
  refine ⟨hb11, ?_⟩
  have HO11 := As.mk hown11
  have HA11 := As.mk hA11
  have HC11 := As.mk hC11
  have HB11 := As.mk hb11
  have hn11 := hown11.rd'.1
  have HN11 := As.mk hn11
  clear hown11 hA11 hC11 hb11 hn11
  try simp only [Act.put, List.getElem_toArray, List.getElem_cons_zero, List.getElem_cons_succ, List.setIfInBounds_toArray, List.set_cons_zero, List.set_cons_succ]
  iterate 1 (refine wpT_float rfl rfl rfl (fun w' => by go_simp; rfl) ?_; try simp only [Act.put, List.getElem_toArray, List.getElem_cons_zero, List.getElem_cons_succ, List.setIfInBounds_toArray, List.set_cons_zero, List.set_cons_succ])
  refine wpT_done (NoPanic.normal ?_)
  go_wp2_with fail
  go_ret
  have hlw : w.heap.size ≤ w10.heap.size := HB10.out.size
  exact ⟨A11, n11, c11, rfl, by rw [HT.out]; exact HO11.out.less hlw, HA11.out, HC11.out, below_then HB10.out hlw HB11.out⟩

theorem einv_start (s loc : List UInt8) (p : Nat) : EInv (hk (ptold s loc p)) p (pshift [1] p) (ptold s loc p) [] [1] := by
  have h1 : (pshift [1] p).length = p + 1 := by
    show (if ([1] : List UInt8) = [] then [] else [1] ++ List.replicate p 0).length = _
    rw [if_neg (by simp)]; simp <;> omega
  have h2 : trim (pshift [1] p) = pshift [1] p := trim_id (by
    show (if ([1] : List UInt8) = [] then [] else [1] ++ List.replicate p 0).getD 0 0 ≠ 0
    rw [if_neg (by simp)]; simp)
  have h3 := told_len s loc p
  refine ⟨h2, trim_trim _, by omega, by omega, by simp; omega, by simp; omega, [], [1], ?_, ?_, ?_⟩
  · exact fun m => by
      rw [mon_shift, co_padd, pm_one, show hk [] = [] from rfl, pm, co_nil, K.add_zero]
  · exact fun m => by
      rw [co_padd, pm, co_nil, K.zero_add, show hk [1] = [1] from rfl, pm_one]
  · exact fun m => by
      rw [co_padd, pm, co_nil, K.zero_add, show hk [1] = [1] from rfl, pm_one]
/-- A slice as a loop carries it. -/
structure SlR (w : World) (A : Option Addr) (n c : Nat) (xs : List UInt8) : Prop where
  rd : Rd B w A n xs
  le : n ≤ c
  nl : A = none → c = 0
theorem SlR.below {w w1 : World} {A : Option Addr} {n c : Nat} {xs : List UInt8} (h : SlR w A n c xs) (hb : Below w.heap.size w w1) : SlR w1 A n c xs := ⟨h.rd.below hb, h.le, h.nl⟩
theorem SlR.of_own {w : World} {base n c : Nat} {A : Option Addr} {xs : List UInt8} (h : L.Own B 5 w base (.slice A n c) xs) (hc : n ≤ c) (hA : A = none → c = 0) : SlR w A n c xs := ⟨h.rd'.2, hc, hA⟩
theorem rdl_two' {w : World} {g : Nat} {A A2 : Option Addr} {m c m2 c2 : Nat} {xs ys : List UInt8} {t : TypeId} (h : w.heap[g]? = some (.cells #[.slice A m c, .slice A2 m2 c2] t (0, 0))) (h1 : SlR w A m c xs) (h2 : SlR w A2 m2 c2 ys) : RdL w (some ⟨g, 0, none⟩) 2 [xs, ys] :=
  rdl_two h h1.rd h1.le h1.nl h2.rd h2.le h2.nl
structure ELp (w wr : World) (T Y0 : List UInt8) (pp lim f : Nat) (Aa Ab Ax Ay : Option Addr) (na ca nb cb nx cx ny cy : Nat) (a b x y : List UInt8) : Prop where
  ra : SlR wr Aa na ca a
  rb : SlR wr Ab nb cb b
  rx : SlR wr Ax nx cx x
  ry : SlR wr Ay ny cy y
  inv : EInv (hk T) pp a b x y
  fu : b.length < f
  res : eloop lim f a b x y = Y0
  bl : Below w.heap.size w wr
set_option maxRecDepth 100000 in
set_option maxHeartbeats 4000000 in
theorem euclid_any (v p n pp : Nat) (A3 A4 : Option Addr) (m3 c3 m4 c4 : Nat) (s loc : List UInt8) (w : World) (hs : LocAt w v p n pp (.slice A3 m3 c3) (.slice A4 m4 c4) loc) (hp : p < v) (hpp : pp ≤ 64) (hm4 : m4 ≤ pp) (hm3 : m3 ≤ 1000) (hl3 : Rd B w A3 m3 s) (hlen : loc.length ≤ 100) :
    Calls Try.prog 121 #[.pointer (some ⟨v, 0, none⟩)] w (SRes v p n pp m4 (.slice A3 m3 c3) (.slice A4 m4 c4) (peuclid s m4 pp loc) w) := by
  obtain ⟨A5, m5, c5, hs5, ho5, hA5, hC5⟩ := hs
  have HS := As.mk hs5
  have HO5 := As.mk ho5
  have HA5 := As.mk hA5
  have HC5 := As.mk hC5
  have HL3 := As.mk hl3
  have hvw : v < w.heap.size := World.block_lt_of_cell? w _ hs5.h0
  have hn5 := ho5.rd'.1
  have hm5 : m5 ≤ 100 := by omega
  have HP : As (peuclid s m4 pp loc = pend (pmul [eloop (pp + m4) (pp + 1) (pshift [1] pp) (ptold s loc pp) [] [1], loc.reverse]) loc) := ⟨rfl⟩
  have HTL := As.mk (told_len s loc pp)
  have HE0 := As.mk (einv_start s loc pp)
  clear hs5 ho5 hA5 hC5 hl3 hn5
  generalize peuclid s m4 pp loc = RES at *
  go_enter Try.func121, Try.ntmps121
  go_wp2_with ((with_reducible show wpList _ _ _ ({ dst := some 13, op := _, type := _, pos := _, after := _, guard := _ } :: _) _ _); refine lit_event 5 1 #[.int .u8 1] rfl (by go_simp) ?_; intro g1 v1 hg1 hgl1 hb1; have HS1 : As (SolAt v1 v p n pp (.slice A3 m3 c3) (.slice A4 m4 c4) (.slice A5 m5 c5)) := ⟨HS.out.below hb1.out⟩; obtain ⟨x0, x1, x2, x3, x4, x5, x6, x7⟩ := HS1.out; clear x7)
  clear x0 x1 x2 x3 x4 x5 x6
  have HL1 : As (Rd B v1 (some ⟨g1, 0, none⟩) 1 [1]) := ⟨rd_blk (α := UInt8) B [1] hg1.out (by simp)⟩
  refine (shift_any _ 1 1 [1] pp v1 (by omega) (by omega) (by omega) HL1.out).mono ?_
  rintro e w2 ⟨Aa, na, ca, rfl, howna, hAa, hCa, hb2⟩
  have HRA : As (SlR w2 Aa na ca (pshift [1] pp)) := ⟨SlR.of_own howna hCa hAa⟩
  have HB2 : As (Below w.heap.size w w2) := ⟨below_then hb1.out hb1.out.size hb2⟩
  have HS2 : As (SolAt w2 v p n pp (.slice A3 m3 c3) (.slice A4 m4 c4) (.slice A5 m5 c5)) := ⟨HS1.out.below hb2⟩
  clear howna hAa hCa hb2 hg1 hgl1 hb1 HL1 HS1
  go_wp2_with fail
  refine (told_any v p n pp _ A3 A5 m3 c3 m5 c5 s loc w2 HS2.out hm3 (by omega) hpp (HL3.out.below HB2.out) (HO5.out.below HB2.out).rd'.2).mono ?_
  rintro e w3 ⟨Ab, nb, cb, rfl, hownb, hAb, hCb, hb3⟩
  have HRB : As (SlR w3 Ab nb cb (ptold s loc pp)) := ⟨SlR.of_own hownb hCb hAb⟩
  have HRA3 : As (SlR w3 Aa na ca (pshift [1] pp)) := ⟨HRA.out.below hb3⟩
  have HB3 : As (Below w.heap.size w w3) := ⟨below_then HB2.out HB2.out.size hb3⟩
  clear hownb hAb hCb hb3 HRA HS2 HB2
  go_wp2_with ((with_reducible show wpList _ _ _ ({ dst := some 21, op := _, type := _, pos := _, after := _, guard := _ } :: _) _ _); refine lit_event 5 1 #[.int .u8 1] rfl (by go_simp) ?_; intro g4 v4 hg4 hgl4 hb4)
  have HLP : As (ELp w v4 (ptold s loc pp) (eloop (pp + m4) (pp + 1) (pshift [1] pp) (ptold s loc pp) [] [1]) pp (pp + m4) (pp + 1) Aa Ab none (some ⟨g4, 0, none⟩) na ca nb cb 0 0 1 1 (pshift [1] pp) (ptold s loc pp) [] [1]) :=
    ⟨⟨HRA3.out.below hb4.out, HRB.out.below hb4.out, ⟨Rd.nil _ _ _, Nat.le_refl _, fun _ => rfl⟩, ⟨rd_blk (α := UInt8) B [1] hg4.out (by simp), Nat.le_refl _, by simp⟩, HE0.out, by have := HTL.out; omega, rfl, below_then HB3.out HB3.out.size hb4.out⟩⟩
  clear HRA3 HRB hg4 hgl4 hb4 HB3 HTL HE0
  generalize eloop (pp + m4) (pp + 1) (pshift [1] pp) (ptold s loc pp) [] [1] = Y0 at *
  generalize ptold s loc pp = T at *
  generalize pshift [1] pp = A0 at *
  go_loopw [3, 4, 5, 6] (fun va vb vx vy wr => ∃ (f : Nat) (Aa Ab Ax Ay : Option Addr) (na ca nb cb nx cx ny cy : Nat) (a b x y : List UInt8), va = .slice Aa na ca ∧ vb = .slice Ab nb cb ∧ vx = .slice Ax nx cx ∧ vy = .slice Ay ny cy ∧ ELp w wr T Y0 pp (pp + m4) f Aa Ab Ax Ay na ca nb cb nx cx ny cy a b x y) (fun _ vb _ _ _ => match vb with | .slice _ k _ => k | _ => 0)
  case atStart => exact ⟨pp + 1, Aa, Ab, none, some ⟨g4, 0, none⟩, na, ca, nb, cb, 0, 0, 1, 1, A0, T, [], [1], rfl, rfl, rfl, rfl, HLP.out⟩
  case round =>
    clear HLP
    obtain ⟨f, Aa, Ab, Ax, Ay, na, ca, nb, cb, nx, cx, ny, cy, a, b, x, y, rfl, rfl, rfl, rfl, hlp⟩ := hrel
    have HL := As.mk hlp
    obtain ⟨wo, hwo⟩ : ∃ wo : World, wo = wr := ⟨_, rfl⟩
    have hla := hlp.ra.rd.len
    have hlb := hlp.rb.rd.len
    have hlx := hlp.rx.rd.len
    have hly := hlp.ry.rd.len
    have hia := hlp.inv.la
    have hiab := hlp.inv.lt
    have hiy := hlp.inv.ly
    have hix := hlp.inv.lx
    have hfu := hlp.fu
    have htb := hlp.inv.tb
    have HTB := As.mk htb
    have bna : na ≤ 65 := by omega
    have bnb : nb ≤ 64 := by omega
    have bnx : nx ≤ 66 := by omega
    have bny : ny ≤ 66 := by omega
    have HSW : As (SolAt wr v p n pp (.slice A3 m3 c3) (.slice A4 m4 c4) (.slice A5 m5 c5)) := ⟨HS.out.below hlp.bl⟩
    have hres := hlp.res
    obtain ⟨f, rfl⟩ : ∃ f', f = f' + 1 := ⟨f - 1, by omega⟩
    rw [eloop, htb, hlb] at hres
    have HNB := As.mk hlb
    have HNA := As.mk hla
    have HNX := As.mk hlx
    have HNY := As.mk hly
    clear hlp hla hlb hlx hly hia hiab hiy hix hfu htb
    by_cases hc : ((pp + m4 : Nat) : Int) ≤ 2 * ((nb : Int) - 1)
    · have e1 : decide ((pp : Int) + m4 ≤ 2 * ((nb : Int) - 1)) = true := decide_eq_true (by omega)
      rw [if_pos hc] at hres
      have HRES := As.mk hres
      clear hres
      go_wp2_with fail
      refine regionT [0, 3, 4, 5, 6, 7, 8, 9, 10, 11, 12, 1, 2, 13] mixed (by kernel_rfl) (by decide) (by kernel_rfl) ?_
      intro wd hd hds
      have HBD : As (Below wr.heap.size wr wd) := ⟨hd.out _⟩
      have HSD : As (SolAt wd v p n pp (.slice A3 m3 c3) (.slice A4 m4 c4) (.slice A5 m5 c5)) := ⟨HSW.out.below HBD.out⟩
      have HBB : As (Rd B wd Ab nb b) := ⟨HL.out.rb.rd.below HBD.out⟩
      have HBC := As.mk HL.out.rb.le
      clear hd hds HSW
      iterate 4 (refine wpT_float rfl rfl rfl (fun w' => by go_simp; rfl) ?_; try simp only [Act.put, List.getElem_toArray, List.getElem_cons_zero, List.getElem_cons_succ, List.setIfInBounds_toArray, List.set_cons_zero, List.set_cons_succ])
      (refine wpT_load rfl rfl rfl rfl (fun w' hw' => by obtain ⟨x0, x1, x2, x3, x4, x5, _, _⟩ := HSD.out.below hw'; go_simp; rfl) ?_; try simp only [Act.put, List.getElem_toArray, List.getElem_cons_zero, List.getElem_cons_succ, List.setIfInBounds_toArray, List.set_cons_zero, List.set_cons_succ])
      iterate 3 (refine wpT_float rfl rfl rfl (fun w' => by go_simp; rfl) ?_; try simp only [Act.put, List.getElem_toArray, List.getElem_cons_zero, List.getElem_cons_succ, List.setIfInBounds_toArray, List.set_cons_zero, List.set_cons_succ])
      (refine wpT_load rfl rfl rfl rfl (fun w' hw' => by obtain ⟨x0, x1, x2, x3, x4, x5, _, _⟩ := HSD.out.below hw'; go_simp; rfl) ?_; try simp only [Act.put, List.getElem_toArray, List.getElem_cons_zero, List.getElem_cons_succ, List.setIfInBounds_toArray, List.set_cons_zero, List.set_cons_succ])
      iterate 2 (refine wpT_float rfl rfl rfl (fun w' => by go_simp; rfl) ?_; try simp only [Act.put, List.getElem_toArray, List.getElem_cons_zero, List.getElem_cons_succ, List.setIfInBounds_toArray, List.set_cons_zero, List.set_cons_succ])
      refine wpT_op rfl rfl rfl ?_
      go_simp
      refine (degree_any Ab nb cb b wd (by omega) HBC.out HBB.out).mono ?_
      rintro e w5 ⟨rfl, hb5⟩
      refine ⟨hb5, ?_⟩
      rw [HTB.out, HNB.out]
      have HB5 := As.mk hb5
      clear hb5
      try simp only [Act.put, List.getElem_toArray, List.getElem_cons_zero, List.getElem_cons_succ, List.setIfInBounds_toArray, List.set_cons_zero, List.set_cons_succ]
      iterate 2 (refine wpT_float rfl rfl rfl (fun w' => by go_simp; rfl) ?_; try simp only [Act.put, List.getElem_toArray, List.getElem_cons_zero, List.getElem_cons_succ, List.setIfInBounds_toArray, List.set_cons_zero, List.set_cons_succ])
      refine wpT_done (NoPanic.normal ?_)
      have q1 : IntKind.i64.wrap (2 * ((nb : Int) - 1)) = 2 * ((nb : Int) - 1) := IntWalk.i64_in _ (by omega)
      have q2 : IntKind.i64.wrap ((pp : Int) + m4) = (pp : Int) + m4 := IntWalk.i64_in _ (by omega)
      rw [q1, q2, e1]
      clear q1 q2
      have HL5 : As (ELp w w5 T Y0 pp (pp + m4) (f + 1) Aa Ab Ax Ay na ca nb cb nx cx ny cy a b x y) := ⟨⟨(HL.out.ra.below HBD.out).below HB5.out, (HL.out.rb.below HBD.out).below HB5.out, (HL.out.rx.below HBD.out).below HB5.out, (HL.out.ry.below HBD.out).below HB5.out, HL.out.inv, HL.out.fu, HL.out.res, below_then HL.out.bl HL.out.bl.size (below_then HBD.out HBD.out.size HB5.out)⟩⟩
      have HS5 : As (SolAt w5 v p n pp (.slice A3 m3 c3) (.slice A4 m4 c4) (.slice A5 m5 c5)) := ⟨HSD.out.below HB5.out⟩
      have hbne : b ≠ [] := by rintro rfl; have := HNB.out; simp at this; omega
      have HST := As.mk (einv_step HL.out.inv hpp hbne)
      have HDR := As.mk (show (pdiv a b).2.length < b.length from HST.out.lt)
      have HQL : As ((pdiv a b).1.length ≤ 66) := ⟨by
        have := div_qlen a b (by rw [HTB.out]; exact hbne)
        have := trim_len a; have := HNA.out; omega⟩
      have htbn : trim b ≠ [] := by rw [HTB.out]; exact hbne
      obtain ⟨x0, x1, x2, x3, x4, x5, x6, x7⟩ := HS5.out
      clear x7 HL HBB HBD HB5 HBC HSD hc hbne
      go_wp2_with fail
      clear x0 x1 x2 x3 x4 x5 x6
      refine (divmod_any p Aa Ab na ca nb cb a b w5 HS5.out.field (by omega) (by omega) HL5.out.ra.le HL5.out.rb.le htbn HL5.out.ra.rd HL5.out.rb.rd).mono ?_
      rintro e w6 ⟨Aq, nq, cq, Ar, nr, cr, rfl, hoq, hor, hAq, hCq, hAr, hCr, hb6⟩
      have HRQ : As (SlR w6 Aq nq cq (pdiv a b).1) := ⟨SlR.of_own hoq hCq hAq⟩
      have HRR : As (SlR w6 Ar nr cr (pdiv a b).2) := ⟨SlR.of_own hor hCr hAr⟩
      have HL6 : As (ELp w w6 T Y0 pp (pp + m4) (f + 1) Aa Ab Ax Ay na ca nb cb nx cx ny cy a b x y) := ⟨⟨HL5.out.ra.below hb6, HL5.out.rb.below hb6, HL5.out.rx.below hb6, HL5.out.ry.below hb6, HL5.out.inv, HL5.out.fu, HL5.out.res, below_then HL5.out.bl HL5.out.bl.size hb6⟩⟩
      have HS6 : As (SolAt w6 v p n pp (.slice A3 m3 c3) (.slice A4 m4 c4) (.slice A5 m5 c5)) := ⟨HS5.out.below hb6⟩
      have HNR := As.mk hor.rd'.1
      clear hoq hor hAq hCq hAr hCr hb6 HL5 HS5 htbn
      go_wp2_with fail
      refine regionT [0, 1, 2, 3, 4, 5, 6, 7, 8, 9, 10, 11, 12, 13, 14, 15, 16, 17] mixed (by kernel_rfl) (by decide) (by kernel_rfl) ?_
      intro wd hd hds
      have HBD : As (Below w6.heap.size w6 wd) := ⟨hd.out _⟩
      have HSD : As (SolAt wd v p n pp (.slice A3 m3 c3) (.slice A4 m4 c4) (.slice A5 m5 c5)) := ⟨HS6.out.below HBD.out⟩
      have HLD : As (ELp w wd T Y0 pp (pp + m4) (f + 1) Aa Ab Ax Ay na ca nb cb nx cx ny cy a b x y) := ⟨⟨HL6.out.ra.below HBD.out, HL6.out.rb.below HBD.out, HL6.out.rx.below HBD.out, HL6.out.ry.below HBD.out, HL6.out.inv, HL6.out.fu, HL6.out.res, below_then HL6.out.bl HL6.out.bl.size HBD.out⟩⟩
      have HRQD : As (SlR wd Aq nq cq (pdiv a b).1) := ⟨HRQ.out.below HBD.out⟩
      have HRRD : As (SlR wd Ar nr cr (pdiv a b).2) := ⟨HRR.out.below HBD.out⟩
      clear hd hds HS6 HL6 HRQ HRR HBD
      iterate 4 (refine wpT_float rfl rfl rfl (fun w' => by go_simp; rfl) ?_; try simp only [Act.put, List.getElem_toArray, List.getElem_cons_zero, List.getElem_cons_succ, List.setIfInBounds_toArray, List.set_cons_zero, List.set_cons_succ])
      (refine wpT_load rfl rfl rfl rfl (fun w' hw' => by obtain ⟨x0, x1, x2, x3, x4, x5, _, _⟩ := HSD.out.below hw'; go_simp; rfl) ?_; try simp only [Act.put, List.getElem_toArray, List.getElem_cons_zero, List.getElem_cons_succ, List.setIfInBounds_toArray, List.set_cons_zero, List.set_cons_succ])
      iterate 4 (refine wpT_float rfl rfl rfl (fun w' => by go_simp; rfl) ?_; try simp only [Act.put, List.getElem_toArray, List.getElem_cons_zero, List.getElem_cons_succ, List.setIfInBounds_toArray, List.set_cons_zero, List.set_cons_succ])
      (refine wpT_load rfl rfl rfl rfl (fun w' hw' => by obtain ⟨x0, x1, x2, x3, x4, x5, _, _⟩ := HSD.out.below hw'; go_simp; rfl) ?_; try simp only [Act.put, List.getElem_toArray, List.getElem_cons_zero, List.getElem_cons_succ, List.setIfInBounds_toArray, List.set_cons_zero, List.set_cons_succ])
      iterate 2 (refine wpT_float rfl rfl rfl (fun w' => by go_simp; rfl) ?_; try simp only [Act.put, List.getElem_toArray, List.getElem_cons_zero, List.getElem_cons_succ, List.setIfInBounds_toArray, List.set_cons_zero, List.set_cons_succ])
      refine wpT_lit 39 2 #[.slice Aq nq cq, .slice Ay ny cy] rfl rfl rfl (by go_simp) ?_
      intro g7 w7 hg7 hlg7 hb7
      try simp only [Act.put, List.getElem_toArray, List.getElem_cons_zero, List.getElem_cons_succ, List.setIfInBounds_toArray, List.set_cons_zero, List.set_cons_succ]
      have HRL7 : As (RdL w7 (some ⟨g7, 0, none⟩) 2 [(pdiv a b).1, y]) := ⟨rdl_two' hg7.out (HRQD.out.below hb7.out) (HLD.out.ry.below hb7.out)⟩
      have hml := mul2_len1 (pdiv a b).1 y
      have hql := HQL.out
      have hyl := HNY.out
      refine wpT_op rfl rfl rfl ?_
      go_simp
      refine (mulL_any p _ 2 2 [(pdiv a b).1, y] w7 (HSD.out.below hb7.out).field (by omega) (by rw [lens_two]; omega) HRL7.out).mono ?_
      rintro e w8 ⟨A8, n8, c8, rfl, hown8, hA8, hC8, hb8⟩
      refine ⟨hb8, ?_⟩
      have HO8 := As.mk hown8
      have HA8 := As.mk hA8
      have HC8 := As.mk hC8
      have HB8 := As.mk hb8
      have hn8 := hown8.rd'.1
      have HN8 := As.mk hn8
      clear hown8 hA8 hC8 hb8 hn8
      try simp only [Act.put, List.getElem_toArray, List.getElem_cons_zero, List.getElem_cons_succ, List.setIfInBounds_toArray, List.set_cons_zero, List.set_cons_succ]
      refine wpT_lit 39 2 #[.slice Ax nx cx, .slice A8 n8 c8] rfl rfl rfl (by go_simp) ?_
      intro g9 w9 hg9 hlg9 hb9
      try simp only [Act.put, List.getElem_toArray, List.getElem_cons_zero, List.getElem_cons_succ, List.setIfInBounds_toArray, List.set_cons_zero, List.set_cons_succ]
      have HRL9 : As (RdL w9 (some ⟨g9, 0, none⟩) 2 [x, pmul [(pdiv a b).1, y]]) := ⟨rdl_two' hg9.out (((HLD.out.rx.below hb7.out).below HB8.out).below hb9.out) ((SlR.of_own HO8.out HC8.out HA8.out).below hb9.out)⟩
      have hxl := HNX.out
      refine wpT_op rfl rfl rfl ?_
      go_simp
      refine (adds_any p _ 2 2 [x, pmul [(pdiv a b).1, y]] w9 (((HSD.out.below hb7.out).below HB8.out).below hb9.out).field (by omega) (by intro l hl; simp at hl; rcases hl with rfl | rfl <;> omega) HRL9.out).mono ?_
      rintro e w10 ⟨A10, n10, c10, rfl, hown10, hA10, hC10, hb10⟩
      refine ⟨hb10, ?_⟩
      have HO10 := As.mk hown10
      have HA10 := As.mk hA10
      have HC10 := As.mk hC10
      have HB10 := As.mk hb10
      have hn10 := hown10.rd'.1
      have HN10 := As.mk hn10
      clear hown10 hA10 hC10 hb10 hn10
      have HBX : As (Below w.heap.size w w10) := ⟨by have h1 := below_then HLD.out.bl HLD.out.bl.size hb7.out; have h2 := below_then h1 h1.size HB8.out; have h3 := below_then h2 h2.size hb9.out; exact below_then h3 h3.size HB10.out⟩
      try simp only [Act.put, List.getElem_toArray, List.getElem_cons_zero, List.getElem_cons_succ, List.setIfInBounds_toArray, List.set_cons_zero, List.set_cons_succ]
      iterate 2 (refine wpT_float rfl rfl rfl (fun w' => by go_simp; rfl) ?_; try simp only [Act.put, List.getElem_toArray, List.getElem_cons_zero, List.getElem_cons_succ, List.setIfInBounds_toArray, List.set_cons_zero, List.set_cons_succ])
      refine wpT_done (NoPanic.normal ?_)
      go_wp2_with fail
      have hnr : nr < nb := by have := HNR.out; have := HDR.out; have := HNB.out; omega
      go_roundw
      case rel => exact ⟨f, Ab, Ar, Ay, A10, nb, cb, nr, cr, ny, cy, n10, c10, b, (pdiv a b).2, y, padds [x, pmul [(pdiv a b).1, y]], rfl, rfl, rfl, rfl, ⟨(((HLD.out.rb.below hb7.out).below HB8.out).below hb9.out).below HB10.out, (((HRRD.out.below hb7.out).below HB8.out).below hb9.out).below HB10.out, (((HLD.out.ry.below hb7.out).below HB8.out).below hb9.out).below HB10.out, SlR.of_own HO10.out HC10.out HA10.out, HST.out, by have := HLD.out.fu; have := HDR.out; omega, HRES.out, HBX.out⟩⟩
      case measure => simp; omega
    · have e1 : decide ((pp : Int) + m4 ≤ 2 * ((nb : Int) - 1)) = false := decide_eq_false (by omega)
      rw [if_neg hc] at hres
      have HRES := As.mk hres
      clear hres
      go_wp2_with fail
      refine regionT [0, 3, 4, 5, 6, 7, 8, 9, 10, 11, 12, 1, 2, 13] mixed (by kernel_rfl) (by decide) (by kernel_rfl) ?_
      intro wd hd hds
      have HBD : As (Below wr.heap.size wr wd) := ⟨hd.out _⟩
      have HSD : As (SolAt wd v p n pp (.slice A3 m3 c3) (.slice A4 m4 c4) (.slice A5 m5 c5)) := ⟨HSW.out.below HBD.out⟩
      have HBB : As (Rd B wd Ab nb b) := ⟨HL.out.rb.rd.below HBD.out⟩
      have HBC := As.mk HL.out.rb.le
      clear hd hds HSW
      iterate 4 (refine wpT_float rfl rfl rfl (fun w' => by go_simp; rfl) ?_; try simp only [Act.put, List.getElem_toArray, List.getElem_cons_zero, List.getElem_cons_succ, List.setIfInBounds_toArray, List.set_cons_zero, List.set_cons_succ])
      (refine wpT_load rfl rfl rfl rfl (fun w' hw' => by obtain ⟨x0, x1, x2, x3, x4, x5, _, _⟩ := HSD.out.below hw'; go_simp; rfl) ?_; try simp only [Act.put, List.getElem_toArray, List.getElem_cons_zero, List.getElem_cons_succ, List.setIfInBounds_toArray, List.set_cons_zero, List.set_cons_succ])
      iterate 3 (refine wpT_float rfl rfl rfl (fun w' => by go_simp; rfl) ?_; try simp only [Act.put, List.getElem_toArray, List.getElem_cons_zero, List.getElem_cons_succ, List.setIfInBounds_toArray, List.set_cons_zero, List.set_cons_succ])
      (refine wpT_load rfl rfl rfl rfl (fun w' hw' => by obtain ⟨x0, x1, x2, x3, x4, x5, _, _⟩ := HSD.out.below hw'; go_simp; rfl) ?_; try simp only [Act.put, List.getElem_toArray, List.getElem_cons_zero, List.getElem_cons_succ, List.setIfInBounds_toArray, List.set_cons_zero, List.set_cons_succ])
      iterate 2 (refine wpT_float rfl rfl rfl (fun w' => by go_simp; rfl) ?_; try simp only [Act.put, List.getElem_toArray, List.getElem_cons_zero, List.getElem_cons_succ, List.setIfInBounds_toArray, List.set_cons_zero, List.set_cons_succ])
      refine wpT_op rfl rfl rfl ?_
      go_simp
      refine (degree_any Ab nb cb b wd (by omega) HBC.out HBB.out).mono ?_
      rintro e w5 ⟨rfl, hb5⟩
      refine ⟨hb5, ?_⟩
      rw [HTB.out, HNB.out]
      have HB5 := As.mk hb5
      clear hb5
      try simp only [Act.put, List.getElem_toArray, List.getElem_cons_zero, List.getElem_cons_succ, List.setIfInBounds_toArray, List.set_cons_zero, List.set_cons_succ]
      iterate 2 (refine wpT_float rfl rfl rfl (fun w' => by go_simp; rfl) ?_; try simp only [Act.put, List.getElem_toArray, List.getElem_cons_zero, List.getElem_cons_succ, List.setIfInBounds_toArray, List.set_cons_zero, List.set_cons_succ])
      refine wpT_done (NoPanic.normal ?_)
      have q1 : IntKind.i64.wrap (2 * ((nb : Int) - 1)) = 2 * ((nb : Int) - 1) := IntWalk.i64_in _ (by omega)
      have q2 : IntKind.i64.wrap ((pp : Int) + m4) = (pp : Int) + m4 := IntWalk.i64_in _ (by omega)
      rw [q1, q2, e1]
      clear q1 q2
      have HRY5 : As (SlR w5 Ay ny cy y) := ⟨(HL.out.ry.below HBD.out).below HB5.out⟩
      have HB05 : As (Below w.heap.size w w5) := ⟨below_then HL.out.bl HL.out.bl.size (below_then HBD.out HBD.out.size HB5.out)⟩
      have HS5 : As (SolAt w5 v p n pp (.slice A3 m3 c3) (.slice A4 m4 c4) (.slice A5 m5 c5)) := ⟨HSD.out.below HB5.out⟩
      have HO55 : As (L.Own B 5 w5 (v + 1) (.slice A5 m5 c5) loc) := ⟨HO5.out.below HB05.out⟩
      clear HL HBB HBD HB5 HBC HSD hc
      go_wp2_with fail
      refine regionT [0, 1, 2, 3, 4, 5, 6, 7, 8, 9, 10, 11, 12] mixed (by kernel_rfl) (by decide) (by kernel_rfl) ?_
      intro wd hd hds
      have HBD : As (Below w5.heap.size w5 wd) := ⟨hd.out _⟩
      have HSD : As (SolAt wd v p n pp (.slice A3 m3 c3) (.slice A4 m4 c4) (.slice A5 m5 c5)) := ⟨HS5.out.below HBD.out⟩
      have HRYD : As (SlR wd Ay ny cy y) := ⟨HRY5.out.below HBD.out⟩
      have HOD : As (L.Own B 5 wd (v + 1) (.slice A5 m5 c5) loc) := ⟨HO55.out.below HBD.out⟩
      have HB0D : As (Below w.heap.size w wd) := ⟨below_then HB05.out HB05.out.size HBD.out⟩
      clear hd hds HS5 HRY5 HO55 HBD HB05
      iterate 3 (refine wpT_float rfl rfl rfl (fun w' => by go_simp; rfl) ?_; try simp only [Act.put, List.getElem_toArray, List.getElem_cons_zero, List.getElem_cons_succ, List.setIfInBounds_toArray, List.set_cons_zero, List.set_cons_succ])
      (refine wpT_load rfl rfl rfl rfl (fun w' hw' => by obtain ⟨x0, x1, x2, x3, x4, x5, _, _⟩ := HSD.out.below hw'; go_simp; rfl) ?_; try simp only [Act.put, List.getElem_toArray, List.getElem_cons_zero, List.getElem_cons_succ, List.setIfInBounds_toArray, List.set_cons_zero, List.set_cons_succ])
      iterate 4 (refine wpT_float rfl rfl rfl (fun w' => by go_simp; rfl) ?_; try simp only [Act.put, List.getElem_toArray, List.getElem_cons_zero, List.getElem_cons_succ, List.setIfInBounds_toArray, List.set_cons_zero, List.set_cons_succ])
      (refine wpT_load rfl rfl rfl rfl (fun w' hw' => by obtain ⟨x0, x1, x2, x3, x4, x5, _, _⟩ := HSD.out.below hw'; go_simp; rfl) ?_; try simp only [Act.put, List.getElem_toArray, List.getElem_cons_zero, List.getElem_cons_succ, List.setIfInBounds_toArray, List.set_cons_zero, List.set_cons_succ])
      refine wpT_op rfl rfl rfl ?_
      go_simp
      refine (high_any A5 m5 c5 loc wd (by omega) HOD.out.rd'.2).mono ?_
      rintro e w6 ⟨A6, n6, c6, rfl, hown6, hA6, hC6, hb6⟩
      refine ⟨hb6, ?_⟩
      have HO6 := As.mk hown6
      have HA6 := As.mk hA6
      have HC6 := As.mk hC6
      have HB6 := As.mk hb6
      have hn6 := hown6.rd'.1
      have HN6 := As.mk hn6
      clear hown6 hA6 hC6 hb6 hn6
      try simp only [Act.put, List.getElem_toArray, List.getElem_cons_zero, List.getElem_cons_succ, List.setIfInBounds_toArray, List.set_cons_zero, List.set_cons_succ]
      refine wpT_lit 39 2 #[.slice Ay ny cy, .slice A6 n6 c6] rfl rfl rfl (by go_simp) ?_
      intro g7 w7 hg7 hlg7 hb7
      try simp only [Act.put, List.getElem_toArray, List.getElem_cons_zero, List.getElem_cons_succ, List.setIfInBounds_toArray, List.set_cons_zero, List.set_cons_succ]
      have HRL7 : As (RdL w7 (some ⟨g7, 0, none⟩) 2 [y, loc.reverse]) := ⟨rdl_two' hg7.out ((HRYD.out.below HB6.out).below hb7.out) ((SlR.of_own HO6.out HC6.out HA6.out).below hb7.out)⟩
      have HAL : As ((pmul [y, loc.reverse]).length ≤ 200) := ⟨by have h1 := mul2_len1 y loc.reverse; have h2 := HNY.out; rw [List.length_reverse] at h1; omega⟩
      have hyl := HNY.out
      have HB7 : As (Below w.heap.size w w7) := ⟨by have h2 := below_then HB0D.out HB0D.out.size HB6.out; exact below_then h2 h2.size hb7.out⟩
      have HS7 : As (SolAt w7 v p n pp (.slice A3 m3 c3) (.slice A4 m4 c4) (.slice A5 m5 c5)) := ⟨(HSD.out.below HB6.out).below hb7.out⟩
      refine wpT_op rfl rfl rfl ?_
      go_simp
      refine (mulL_any p _ 2 2 [y, loc.reverse] w7 HS7.out.field (by omega) (by rw [lens_two, List.length_reverse]; omega) HRL7.out).mono ?_
      rintro e w8 ⟨A8, n8, c8, rfl, hown8, hA8, hC8, hb8⟩
      refine ⟨hb8, ?_⟩
      have HO8 := As.mk hown8
      have HA8 := As.mk hA8
      have HC8 := As.mk hC8
      have HB8 := As.mk hb8
      have hn8 := hown8.rd'.1
      have HN8 := As.mk hn8
      clear hown8 hA8 hC8 hb8 hn8
      have HB08 : As (Below w.heap.size w w8) := ⟨below_then HB7.out HB7.out.size HB8.out⟩
      have HS8 : As (SolAt w8 v p n pp (.slice A3 m3 c3) (.slice A4 m4 c4) (.slice A5 m5 c5)) := ⟨HS7.out.below HB8.out⟩
      have HO58 : As (L.Own B 5 w8 (v + 1) (.slice A5 m5 c5) loc) := ⟨((HOD.out.below HB6.out).below hb7.out).below HB8.out⟩
      clear HB7 HS7 HRL7 hg7 hlg7 hb7 HOD HSD HB0D HRYD HO6 HA6 HC6 HB6 HB8 hyl
      try simp only [Act.put, List.getElem_toArray, List.getElem_cons_zero, List.getElem_cons_succ, List.setIfInBounds_toArray, List.set_cons_zero, List.set_cons_succ]
      iterate 1 (refine wpT_float rfl rfl rfl (fun w' => by go_simp; rfl) ?_; try simp only [Act.put, List.getElem_toArray, List.getElem_cons_zero, List.getElem_cons_succ, List.setIfInBounds_toArray, List.set_cons_zero, List.set_cons_succ])
      refine wpT_done (NoPanic.normal ?_)
      have HPE : As (RES = pend (pmul [y, loc.reverse]) loc) := ⟨by rw [HP.out, HRES.out]⟩
      generalize pmul [y, loc.reverse] = all at *
      clear HP
      have hn8 : n8 ≤ 200 := by rw [HN8.out]; exact HAL.out
      by_cases h0 : n8 = 0
      · subst h0
        have HAE : As (all = []) := ⟨List.eq_nil_of_length_eq_zero HN8.out.symm⟩
        go_wp2_with fail
        go_ret
        exact ⟨by rw [HPE.out, pend, if_pos (.inl HAE.out)]; rfl, ⟨A5, m5, c5, by rw [HPE.out, pend, if_pos (.inl HAE.out)]; exact ⟨HS8.out, HO58.out, HA5.out, HC5.out⟩⟩, HB08.out.mono (by omega)⟩
      · obtain ⟨k, rfl⟩ : ∃ k, n8 = k + 1 := ⟨n8 - 1, by omega⟩
        have q1 : ((k + 1 : Nat) : Int) - 1 = (k : Int) := by omega
        have HRA8 : As (SlR w8 A8 (k + 1) c8 all) := ⟨SlR.of_own HO8.out HC8.out HA8.out⟩
        obtain ⟨ad, rfl, z, hz, hcz⟩ := HRA8.out.rd.at_ k (by omega)
        have HZ := As.mk hz
        have HCZ := As.mk hcz
        have HLZ : As (all.getD (all.length - 1) 0 = z) := ⟨by rw [← HN8.out, List.getD_eq_getElem?_getD, show k + 1 - 1 = k by omega, HZ.out]; rfl⟩
        have HNE : As (all ≠ []) := ⟨by intro h; have := HN8.out; rw [h] at this; simp at this⟩
        clear hz h0
        by_cases hz0 : z = 0
        · subst hz0
          go_wp2_with fail
          go_ret
          exact ⟨by rw [HPE.out, pend, if_pos (.inr HLZ.out)]; rfl, ⟨A5, m5, c5, by rw [HPE.out, pend, if_pos (.inr HLZ.out)]; exact ⟨HS8.out, HO58.out, HA5.out, HC5.out⟩⟩, HB08.out.mono (by omega)⟩
        · have HZ0 := As.mk hz0
          have e2 : ((z.toNat : Int) == 0) = false := u8_ne0 hz0
          have HRP : As (RES = ((k : Int), pscaled all.reverse (ginv z))) := ⟨by
            rw [HPE.out, pend, if_neg (by rw [HLZ.out]; intro h; exact h.elim HNE.out HZ0.out), HLZ.out, ← HN8.out, q1]⟩
          clear hz0 HPE
          go_wp2_with fail
          have q3 : IntKind.i64.wrap (k : Int) = (k : Int) := IntWalk.i64_in _ (by omega)
          have q4 : (0 : Int) ≤ (k : Int) ∧ (k : Int) < (k : Int) + 1 := by omega
          refine regionT [0, 1, 2, 3, 4, 5, 6, 7, 8, 9, 10, 11, 12, 13, 14, 15] mixed (by kernel_rfl) (by decide) (by kernel_rfl) ?_
          intro we he hes
          have HBE : As (Below w8.heap.size w8 we) := ⟨he.out _⟩
          have HSE : As (SolAt we v p n pp (.slice A3 m3 c3) (.slice A4 m4 c4) (.slice A5 m5 c5)) := ⟨HS8.out.below HBE.out⟩
          have HCE : As (we.cell? (ad.add k) = some (B z)) := ⟨(HBE.out.cell (World.block_lt_of_cell? _ _ HCZ.out)).trans HCZ.out⟩
          have HRAE : As (SlR we (some ad) (k + 1) c8 all) := ⟨HRA8.out.below HBE.out⟩
          have HO5E : As (L.Own B 5 we (v + 1) (.slice A5 m5 c5) loc) := ⟨HO58.out.below HBE.out⟩
          have HB0E : As (Below w.heap.size w we) := ⟨below_then HB08.out HB08.out.size HBE.out⟩
          clear he hes HS8 HCZ HRA8 HO58 HB08 HBE hcz HO8 HA8 HC8
          iterate 3 (refine wpT_float rfl rfl rfl (fun w' => by go_simp; rfl) ?_; try simp only [Act.put, List.getElem_toArray, List.getElem_cons_zero, List.getElem_cons_succ, List.setIfInBounds_toArray, List.set_cons_zero, List.set_cons_succ])
          (refine wpT_load rfl rfl rfl rfl (fun w' hw' => by obtain ⟨x0, x1, x2, x3, x4, x5, _, _⟩ := HSE.out.below hw'; go_simp; rfl) ?_; try simp only [Act.put, List.getElem_toArray, List.getElem_cons_zero, List.getElem_cons_succ, List.setIfInBounds_toArray, List.set_cons_zero, List.set_cons_succ])
          iterate 5 (refine wpT_float rfl rfl rfl (fun w' => by go_simp; rfl) ?_; try simp only [Act.put, List.getElem_toArray, List.getElem_cons_zero, List.getElem_cons_succ, List.setIfInBounds_toArray, List.set_cons_zero, List.set_cons_succ])
          (refine wpT_load rfl rfl rfl rfl (fun w' hw' => by have hq : w'.cell? (ad.add k) = some (B z) := (hw'.cell (p := (ad.add k)) (World.block_lt_of_cell? _ _ HCE.out)).trans HCE.out; go_simp; rfl) ?_; try simp only [Act.put, List.getElem_toArray, List.getElem_cons_zero, List.getElem_cons_succ, List.setIfInBounds_toArray, List.set_cons_zero, List.set_cons_succ])
          refine wpT_op rfl rfl rfl ?_
          go_simp
          refine (inv_any p z we HSE.out.field HZ0.out).mono ?_
          rintro e w' ⟨rfl, rfl⟩
          refine ⟨Below.refl _ _, ?_⟩
          try simp only [Act.put, List.getElem_toArray, List.getElem_cons_zero, List.getElem_cons_succ, List.setIfInBounds_toArray, List.set_cons_zero, List.set_cons_succ]
          iterate 5 (refine wpT_float rfl rfl rfl (fun w' => by go_simp; rfl) ?_; try simp only [Act.put, List.getElem_toArray, List.getElem_cons_zero, List.getElem_cons_succ, List.setIfInBounds_toArray, List.set_cons_zero, List.set_cons_succ])
          refine wpT_done (NoPanic.normal ?_)
          clear q3 q4
          go_wp2_with fail
          have hwe : w.heap.size ≤ we.heap.size := HB0E.out.size
          refine (high_any (some ad) (k + 1) c8 all we (by omega) HRAE.out.rd).mono ?_
          rintro e w9 ⟨A9, n9, c9, rfl, hown9, hA9, hC9, hb9⟩
          have HR9 : As (SlR w9 A9 n9 c9 all.reverse) := ⟨SlR.of_own hown9 hC9 hA9⟩
          have hn9 : n9 = k + 1 := by have := hown9.rd'.1; rw [List.length_reverse, ← HN8.out] at this; exact this
          subst hn9
          have HB9 := As.mk hb9
          clear hown9 hA9 hC9 hb9
          go_wp2_with fail
          refine (scaled_any v p n pp _ _ _ A9 (k + 1) c9 all.reverse (ginv z) w9 (HSE.out.below HB9.out) (by omega) HR9.out.rd).mono ?_
          rintro e w10 ⟨A10, n10, c10, rfl, hown10, hA10, hC10, hb10⟩
          have hn10 : n10 = k + 1 := by have := hown10.rd'.1; rw [pscaled_len, List.length_reverse, ← HN8.out] at this; exact this
          subst hn10
          have HO10 := As.mk hown10
          have HA10 := As.mk hA10
          have HC10 := As.mk hC10
          have HS10 : As (SolAt w10 v p n pp (.slice A3 m3 c3) (.slice A4 m4 c4) (.slice A5 m5 c5)) := ⟨(HSE.out.below HB9.out).below hb10⟩
          have HB10 : As (Below w.heap.size w w10) := ⟨below_then (below_then HB0E.out hwe HB9.out) (Nat.le_trans hwe HB9.out.size) hb10⟩
          have hw9 : w.heap.size ≤ w9.heap.size := Nat.le_trans hwe HB9.out.size
          clear hown10 hA10 hC10 hb10 HSE HCE HRAE HB9 HB0E HO5E HR9 e2
          obtain ⟨x0, x1, x2, x3, x4, x5, x6, x7⟩ := HS10.out
          clear x7
          go_wp2_with fail
          have HSF : As (SolAt (w10.setCell ⟨v, 5, none⟩ (.slice A10 (k + 1) c10)) v p n pp (.slice A3 m3 c3) (.slice A4 m4 c4) (.slice A10 (k + 1) c10)) := ⟨HS10.out.setLoc hp _⟩
          have HOF : As (L.Own B 5 (w10.setCell ⟨v, 5, none⟩ (.slice A10 (k + 1) c10)) (v + 1) (.slice A10 (k + 1) c10) (pscaled all.reverse (ginv z))) := ⟨Own.setLoc (HO10.out.less (by omega)) (by omega) _⟩
          have HBF : As (Below v w (w10.setCell ⟨v, 5, none⟩ (.slice A10 (k + 1) c10))) := ⟨Below.setCell (p := ⟨v, 5, none⟩) (show Below v w w10 from HB10.out.mono (by omega)) (Nat.le_refl _) _⟩
          clear x0 x1 x2 x3 x4 x5 x6 HO10 HS10 HB10
          generalize w10.setCell ⟨v, 5, none⟩ (.slice A10 (k + 1) c10) = w11 at *
          obtain ⟨x0, x1, x2, x3, x4, x5, x6, x7⟩ := HSF.out
          clear x7
          go_wp2_with fail
          go_ret
          exact ⟨by rw [HRP.out]; rfl, ⟨A10, k + 1, c10, by rw [HRP.out]; exact ⟨HSF.out, HOF.out, HA10.out, HC10.out⟩⟩, HBF.out⟩
end Go.Proofs.Ytdcjionaedcfoaa.Solve
