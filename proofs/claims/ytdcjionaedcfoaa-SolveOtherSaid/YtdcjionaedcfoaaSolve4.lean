/- Walks of layer 7 (solve): erasures, derived. -/
import Derived.Test.YtdcjionaedcfoaaSolve3
set_option linter.unusedVariables false
set_option linter.unusedSimpArgs false
namespace Go.Proofs.Ytdcjionaedcfoaa.Solve
open Go.RowKit Go.Proofs.Ytdcjionaedcfoaa.L Go.Proofs.Ytdcjionaedcfoaa.Gf Go.Proofs.Ytdcjionaedcfoaa.Poly Go.Proofs.Ytdcjionaedcfoaa.Rs

/-! ### What lies below a block -/
theorem Rd.under {α : Type} {enc : α → Value} {w w1 : World} {A : Option Addr} {n B : Nat} {xs : List α} (h : Rd enc w A n xs) (hA : ∀ ad, A = some ad → ad.block < B) (hb : Below B w w1) : Rd enc w1 A n xs :=
  ⟨h.1, h.2.1, fun hn => by
    obtain ⟨ad, e, hc⟩ := h.2.2 hn
    refine ⟨ad, e, fun j u hj => (hb.cell (p := ad.add j) ?_).trans (hc j u hj)⟩
    have := hA ad e
    unfold Addr.add
    split <;> exact this⟩
theorem FieldAt.under {w w' : World} {p B : Nat} (h : FieldAt w p) (hp : p < B) (hb : Below B w w') : FieldAt w' p :=
  ⟨fun i hi => (hb.cell (p := ⟨p, i, none⟩) hp).trans (h.exp i hi), fun b => (hb.cell (p := ⟨p, 255 + b.toNat, none⟩) hp).trans (h.log b)⟩
theorem SolAt.setLoc {w : World} {v p n pp : Nat} {V3 V4 V5 : Value} (h : SolAt w v p n pp V3 V4 V5) (hp : p < v) (V : Value) : SolAt (w.setCell ⟨v, 5, none⟩ V) v p n pp V3 V4 V := by
  have q (i : Nat) (hi : i ≠ 5) : (w.setCell ⟨v, 5, none⟩ V).cell? ⟨v, i, none⟩ = w.cell? ⟨v, i, none⟩ := World.cell?_setCell_other _ _ _ _ (by intro h; cases h; exact hi rfl)
  refine ⟨(q 0 (by omega)).trans h.h0, (q 1 (by omega)).trans h.h1, (q 2 (by omega)).trans h.h2, (q 3 (by omega)).trans h.h3, (q 4 (by omega)).trans h.h4, ?_, ?_, ?_⟩
  · exact World.cell?_setCell_same' _ _ _ (by rw [h.h5]; rfl)
  · rw [World.frozen?_setCell]; exact h.free
  · exact FieldAt.under h.field hp ((Below.refl v w).setCell (Nat.le_refl _) _)
theorem Own.setLoc {w : World} {v base m c : Nat} {A : Option Addr} {xs : List UInt8} (h : Own B 5 w base (.slice A m c) xs) (hb : v < base) (V : Value) : Own B 5 (w.setCell ⟨v, 5, none⟩ V) base (.slice A m c) xs :=
  Own.of_row (ownV_other (g := 0) h.row (by
    intro a ha e
    have := (World.ownsRow.lt h.row a.block (by rw [ha]; rfl)).1
    simp at e
    omega))

/-! ### erasures -/
abbrev N (i : Nat) : Value := Value.int .i64 (i : Int)
def plocF (n : Nat) : List Nat → List UInt8 → List UInt8
  | [], loc => loc
  | i :: er, loc => plocF n er (pplus loc loc (gexp ((n : Int) - 1 - i)))
def ploc (n : Nat) (er : List Nat) : List UInt8 := plocF n er [1]
theorem pplus_len (a b : List UInt8) (c : UInt8) : (pplus a b c).length = max a.length (b.length + 1) := by simp [pplus]
theorem plocF_len (n : Nat) : ∀ (er : List Nat) (loc : List UInt8), (plocF n er loc).length = loc.length + er.length
  | [], loc => by simp [plocF]
  | i :: er, loc => by rw [plocF, plocF_len n er, pplus_len, List.length_cons]; omega
/-- A solver whose polynomial is loc, in memory of its own behind it. -/
def LocAt (w : World) (v p n pp : Nat) (V3 V4 : Value) (loc : List UInt8) : Prop :=
  ∃ A m c, SolAt w v p n pp V3 V4 (.slice A m c) ∧ Own B 5 w (v + 1) (.slice A m c) loc ∧ (A = none → c = 0) ∧ m ≤ c
set_option maxRecDepth 100000 in
set_option maxHeartbeats 1000000 in
theorem erasures_any (v p n pp : Nat) (V3 V5 : Value) (A4 : Option Addr) (m4 c4 : Nat) (er : List Nat) (w : World) (hs : SolAt w v p n pp V3 (.slice A4 m4 c4) V5) (hp : p < v) (hn : n ≤ 255) (hm : m4 ≤ 1000) (hl : Rd N w A4 m4 er) (hA : ∀ ad, A4 = some ad → ad.block < v) (hr : ∀ i ∈ er, i < n) :
    Calls Try.prog 156 #[.pointer (some ⟨v, 0, none⟩)] w fun e w' => e = .returned (.tuple #[]) ∧ LocAt w' v p n pp V3 (.slice A4 m4 c4) (ploc n er) ∧ Below v w w' := by
  have HS := As.mk hs; clear hs
  have HL := As.mk hl; clear hl
  have HA := As.mk hA; clear hA
  have HR := As.mk hr; clear hr
  have hvs : v < w.heap.size := World.block_lt_of_cell? w _ HS.out.h0
  go_enter Try.func156, Try.ntmps156
  go_wp2_with (first | ((with_reducible show wpList _ _ _ ({ dst := some 5, op := _, type := _, pos := _, after := _, guard := _ } :: _) _ _); refine lit_event 5 1 #[.int .u8 1] rfl (by go_simp) ?_; intro g1 v1 hg1 hgl1 hb1; obtain ⟨x0, x1, x2, x3, x4, x5, x6, x7⟩ := HS.out.below hb1.out; clear x7))
  have HS1 : As (SolAt (v1.setCell ⟨v, 5, none⟩ (.slice (some ⟨g1, 0, none⟩) 1 1)) v p n pp V3 (.slice A4 m4 c4) (.slice (some ⟨g1, 0, none⟩) 1 1)) := ⟨(HS.out.below hb1.out).setLoc hp _⟩
  have HO1 : As (Own B 5 (v1.setCell ⟨v, 5, none⟩ (.slice (some ⟨g1, 0, none⟩) 1 1)) (v + 1) (.slice (some ⟨g1, 0, none⟩) 1 1) [1]) := ⟨Own.setLoc (own_blk (base := v + 1) B [1] hg1.out (by have := hgl1.out; omega) (by simp)) (by omega) _⟩
  have HB1 : As (Below v w (v1.setCell ⟨v, 5, none⟩ (.slice (some ⟨g1, 0, none⟩) 1 1))) := ⟨Below.setCell (p := ⟨v, 5, none⟩) (show Below v w v1 from hb1.out.mono (by omega)) (Nat.le_refl _) _⟩
  clear x0 x1 x2 x3 x4 x5 x6 hg1 hgl1 hb1
  generalize v1.setCell ⟨v, 5, none⟩ (.slice (some ⟨g1, 0, none⟩) 1 1) = w2 at *
  obtain ⟨x0, x1, x2, x3, x4, x5, x6, x7⟩ := HS1.out
  clear x7
  go_wp2_with fail
  clear x0 x1 x2 x3 x4 x5 x6
  go_loopw [13] (fun i wr => ∃ (k : Nat) (loc : List UInt8), k ≤ m4 ∧ i = .int .i64 k ∧ LocAt wr v p n pp V3 (.slice A4 m4 c4) loc ∧ Below v w wr ∧ plocF n (er.drop k) loc = ploc n er ∧ loc.length = k + 1) (fun i _ => m4 - (intOf i).toNat)
  case atStart => exact ⟨0, [1], by omega, rfl, ⟨_, _, _, HS1.out, HO1.out, (fun h => by cases h), Nat.le_refl _⟩, HB1.out, rfl, rfl⟩
  case round =>
    obtain ⟨k, loc, hk, rfl, hloc, hbl, hres, hlen⟩ := hrel
    have HLC := As.mk hloc; clear hloc
    have HBL := As.mk hbl; clear hbl
    have HRE := As.mk hres; clear hres
    have HLN := As.mk hlen; clear hlen
    clear HS1 HO1 HB1
    by_cases hlt : k < m4
    · obtain ⟨ad, rfl, i, hi, hc⟩ := (Rd.under HL.out HA.out HBL.out).at_ k hlt
      have hin : i < n := HR.out i (List.mem_of_getElem? hi)
      have HRS : As (plocF n (er.drop (k + 1)) (pplus loc loc (gexp ((n : Int) - 1 - i))) = ploc n er) := ⟨by rw [← HRE.out, drop_at hi, plocF]⟩
      generalize hx : gexp ((n : Int) - 1 - i) = x at *
      have HX := As.mk hx
      clear hx hi HRE
      obtain ⟨A5, m5, c5, hs5, ho5, hA5, hC5⟩ := HLC.out
      have HS5 := As.mk hs5
      have HO5 := As.mk ho5
      clear hs5 ho5 hA5 hC5 HLC
      have hm5 : m5 = loc.length := HO5.out.rd'.1
      have hm5' : m5 ≤ 70368744177664 := by have := HLN.out; omega
      have HM5 := As.mk hm5'
      clear hm5 hm5'
      go_wp2_with fail
      refine regionT [0, 1, 2, 3, 4, 5, 6, 7, 8, 9, 10, 11, 12, 13, 14, 15, 16] mixed (by kernel_rfl) (by decide) (by kernel_rfl) ?_
      intro wd hd hds
      have HSD : As (SolAt wd v p n pp V3 (.slice (some ad) m4 c4) (.slice A5 m5 c5)) := ⟨HS5.out.below (hd.out _)⟩
      have HOD : As (Own B 5 wd (v + 1) (.slice A5 m5 c5) loc) := ⟨HO5.out.below (hd.out _)⟩
      have HBD : As (Below v w wd) := ⟨HBL.out.trans (hd.out _)⟩
      clear HS5 HO5 HBL hd hds
      iterate 5 (refine wpT_float rfl rfl rfl (fun w' => by go_simp; rfl) ?_; try simp only [Act.put, List.getElem_toArray, List.getElem_cons_zero, List.getElem_cons_succ, List.setIfInBounds_toArray, List.set_cons_zero, List.set_cons_succ])
      (refine wpT_load rfl rfl rfl rfl (fun w' hw' => by obtain ⟨x0, x1, x2, x3, x4, x5, _, _⟩ := HSD.out.below hw'; go_simp; rfl) ?_; try simp only [Act.put, List.getElem_toArray, List.getElem_cons_zero, List.getElem_cons_succ, List.setIfInBounds_toArray, List.set_cons_zero, List.set_cons_succ])
      iterate 3 (refine wpT_float rfl rfl rfl (fun w' => by go_simp; rfl) ?_; try simp only [Act.put, List.getElem_toArray, List.getElem_cons_zero, List.getElem_cons_succ, List.setIfInBounds_toArray, List.set_cons_zero, List.set_cons_succ])
      (refine wpT_load rfl rfl rfl rfl (fun w' hw' => by obtain ⟨x0, x1, x2, x3, x4, x5, _, _⟩ := HSD.out.below hw'; go_simp; rfl) ?_; try simp only [Act.put, List.getElem_toArray, List.getElem_cons_zero, List.getElem_cons_succ, List.setIfInBounds_toArray, List.set_cons_zero, List.set_cons_succ])
      iterate 2 (refine wpT_float rfl rfl rfl (fun w' => by go_simp; rfl) ?_; try simp only [Act.put, List.getElem_toArray, List.getElem_cons_zero, List.getElem_cons_succ, List.setIfInBounds_toArray, List.set_cons_zero, List.set_cons_succ])
      refine wpT_op rfl rfl rfl ?_
      go_simp
      refine (place_any v p n pp _ _ _ i wd HSD.out hn hin).mono ?_
      rw [HX.out]
      rintro e w3 ⟨rfl, hb3⟩
      refine ⟨hb3, ?_⟩
      have HB3 := As.mk hb3
      clear hb3
      refine wpT_op rfl rfl rfl ?_
      go_simp
      refine (plus_any v p n pp _ _ _ A5 A5 m5 c5 m5 c5 loc loc x w3 (HSD.out.below HB3.out) HM5.out HM5.out (HOD.out.rd'.2.below HB3.out) (HOD.out.rd'.2.below HB3.out)).mono ?_
      rintro e w4 ⟨A6, m6, c6, rfl, hown6, hA6, hC6, hb6⟩
      refine ⟨hb6, ?_⟩
      have HO6 := As.mk hown6
      have HA6 := As.mk hA6
      have HC6 := As.mk hC6
      have HB6 := As.mk hb6
      clear hown6 hA6 hC6 hb6
      iterate 2 (refine wpT_float rfl rfl rfl (fun w' => by go_simp; rfl) ?_; try simp only [Act.put, List.getElem_toArray, List.getElem_cons_zero, List.getElem_cons_succ, List.setIfInBounds_toArray, List.set_cons_zero, List.set_cons_succ])
      have HS4 : As (SolAt w4 v p n pp V3 (.slice (some ad) m4 c4) (.slice A5 m5 c5)) := ⟨(HSD.out.below HB3.out).below HB6.out⟩
      have hv3 : v < w3.heap.size := World.block_lt_of_cell? w3 _ (HSD.out.below HB3.out).h0
      have hvd : v < wd.heap.size := World.block_lt_of_cell? wd _ HSD.out.h0
      have HSS : As (SolAt (w4.setCell ⟨v, 5, none⟩ (.slice A6 m6 c6)) v p n pp V3 (.slice (some ad) m4 c4) (.slice A6 m6 c6)) := ⟨HS4.out.setLoc hp _⟩
      have HOS : As (Own B 5 (w4.setCell ⟨v, 5, none⟩ (.slice A6 m6 c6)) (v + 1) (.slice A6 m6 c6) (pplus loc loc x)) := ⟨Own.setLoc (HO6.out.less (by omega)) (by omega) _⟩
      have HBS : As (Below v w (w4.setCell ⟨v, 5, none⟩ (.slice A6 m6 c6))) := ⟨Below.setCell (p := ⟨v, 5, none⟩) (show Below v w w4 from (HBD.out.trans (HB3.out.mono (by omega))).trans (HB6.out.mono (by omega))) (Nat.le_refl _) _⟩
      obtain ⟨x0, x1, x2, x3, x4, x5, x6, x7⟩ := HS4.out
      clear x7 hv3 hvd
      refine wpT_last rfl rfl (by kernel_rfl) ?_
      go_wp2_with fail
      refine NoPanic.normal ?_
      clear x0 x1 x2 x3 x4 x5 x6
      go_wp2_with fail
      go_roundw
      case rel => exact ⟨k + 1, pplus loc loc x, by omega, by go_num, ⟨A6, m6, c6, HSS.out, HOS.out, HA6.out, HC6.out⟩, HBS.out, HRS.out, by rw [pplus_len, HLN.out]; omega⟩
      case measure => simp [intOf]; omega
    · have e : k = er.length := by have := HL.out.len; omega
      have HRS : As (loc = ploc n er) := ⟨by rw [← HRE.out, e, List.drop_length]; rfl⟩
      clear e
      go_wp2_with fail
      go_end0
      exact ⟨rfl, by rw [← HRS.out]; exact HLC.out, HBL.out⟩

/-! ### derived -/
def derF (a : List UInt8) (i : Nat) : UInt8 := if i % 2 = 0 then a.getD (i + 1) 0 else 0
def pderived (a : List UInt8) : List UInt8 := (List.range (a.length - 1)).map (derF a)
theorem pder_succ (a : List UInt8) (k : Nat) : ((List.range (k + 1)).map (derF a)) = ((List.range k).map (derF a)) ++ [derF a k] := by simp [List.range_succ]
set_option maxRecDepth 100000 in
set_option maxHeartbeats 1000000 in
theorem derived_any (A : Option Addr) (n c : Nat) (xs : List UInt8) (w : World) (hn : n ≤ 70368744177664) (hl : Rd B w A n xs) :
    Calls Try.prog 207 #[.slice A n c] w (RetB w (pderived xs)) := by
  have HL := As.mk hl; clear hl
  go_enter Try.func207, Try.ntmps207
  go_wp2_with fail
  go_loopw [3, 4] (fun o i wr => ∃ (k : Nat) (A' : Option Addr) (c' : Nat), k ≤ n - 1 ∧ i = .int .i64 ((k : Int) + 1) ∧ o = .slice A' k c' ∧ Own B 5 wr w.heap.size (.slice A' k c') ((List.range k).map (derF xs)) ∧ (A' = none → c' = 0) ∧ k ≤ c' ∧ Below w.heap.size w wr) (fun _ i _ => n - (intOf i).toNat)
  case atStart => exact ⟨0, none, 0, by omega, rfl, rfl, Own.nil _ _ _ _, fun _ => rfl, Nat.le_refl _, Below.refl _ _⟩
  case round =>
    obtain ⟨k, A', c', hk, rfl, rfl, hown, hA, hC, hbl⟩ := hrel
    have HOW := As.mk hown; clear hown
    have HAA := As.mk hA; clear hA
    have HCC := As.mk hC; clear hC
    have HBL := As.mk hbl; clear hbl
    by_cases hlt : k + 1 < n
    · have hlt' : (k : Int) + 1 < n := by omega
      have HS := As.mk (pder_succ xs k)
      by_cases ho : k % 2 = 0
      · obtain ⟨ad, rfl, x, hx, hc⟩ := (HL.out.below HBL.out).at_ (k + 1) hlt
        have HD : As (derF xs k = x) := ⟨by rw [derF, if_pos ho, List.getD_eq_getElem?_getD, hx]; rfl⟩
        have e1 : (((k : Int) + 1) % 2 == 1) = true := by rw [beq_iff_eq]; omega
        have q4 : ((k : Int) + 1).toNat = k + 1 := by omega
        have HE : As (((List.range k).map (derF xs)).map B ++ [B x] = ((List.range (k + 1)).map (derF xs)).map B) := ⟨by rw [HS.out, HD.out, List.map_append]; rfl⟩
        have hc' : wr.cell? ⟨ad.block, ad.off + (k + 1), none⟩ = some (B x) := by simpa [Addr.add] using hc
        clear hx hc
        go_wp2_with (first | ((with_reducible show wpList _ _ _ ({ dst := some 19, op := _, type := _, pos := _, after := _, guard := _ } :: _) _ _); refine lit_event 5 1 #[B x] rfl (by go_simp) ?_; intro g1 v1 hg1 _ hb1) | (at_builtin; refine append_event w w.heap.size 39 5 (.int .u8 0) 1 1 _ _ rfl rfl Try.underlying39 info_u8 rfl (by decide) _ k _ (some ⟨g1, 0, none⟩) 1 1 [B x] rfl rfl (fun h => by cases h) (ownV_below HOW.out.row hb1.out) (rdv_blk hg1.out (by simp) (by omega)) (by simp [Value.oneCell']) (below_then HBL.out HBL.out.size hb1.out) (Nat.le_trans HBL.out.size hb1.out.size) (by omega) (by decide) (k + 1) rfl _ HE.out ?_; intro A3 c3 w3 hown3 hA3 hC3 hb3 hg3 _))
        go_roundw
        case rel => exact ⟨k + 1, A3, c3, by omega, by go_num, rfl, Own.of_row hown3.out, hA3.out, hC3.out, hb3.out⟩
        case measure => simp [intOf]; omega
      · have HD : As (derF xs k = 0) := ⟨by rw [derF, if_neg ho]⟩
        have e1 : (((k : Int) + 1) % 2 == 1) = false := by rw [beq_eq_false_iff_ne]; omega
        have HE : As (((List.range k).map (derF xs)).map B ++ [.int .u8 0] = ((List.range (k + 1)).map (derF xs)).map B) := ⟨by rw [HS.out, HD.out, List.map_append]; rfl⟩
        go_wp2_with (first | ((with_reducible show wpList _ _ _ ({ dst := some 22, op := _, type := _, pos := _, after := _, guard := _ } :: _) _ _); refine lit_event 5 1 #[.int .u8 0] rfl (by go_simp) ?_; intro g1 v1 hg1 _ hb1) | (at_builtin; refine append_event w w.heap.size 39 5 (.int .u8 0) 1 1 _ _ rfl rfl Try.underlying39 info_u8 rfl (by decide) _ k _ (some ⟨g1, 0, none⟩) 1 1 [.int .u8 0] rfl rfl (fun h => by cases h) (ownV_below HOW.out.row hb1.out) (rdv_blk hg1.out (by simp) (by omega)) (by simp [Value.oneCell']) (below_then HBL.out HBL.out.size hb1.out) (Nat.le_trans HBL.out.size hb1.out.size) (by omega) (by decide) (k + 1) rfl _ HE.out ?_; intro A3 c3 w3 hown3 hA3 hC3 hb3 hg3 _))
        go_roundw
        case rel => exact ⟨k + 1, A3, c3, by omega, by go_num, rfl, Own.of_row hown3.out, hA3.out, hC3.out, hb3.out⟩
        case measure => simp [intOf]; omega
    · have hlt' : ¬ (k : Int) + 1 < n := by omega
      have e : k = n - 1 := by omega
      have he : As ((List.range k).map (derF xs) = pderived xs) := ⟨by rw [pderived, HL.out.len, e]⟩
      clear e
      go_wp2_with fail
      go_ret
      exact ⟨A', k, c', rfl, by rw [← he.out]; exact HOW.out, HAA.out, HCC.out, HBL.out⟩
end Go.Proofs.Ytdcjionaedcfoaa.Solve
