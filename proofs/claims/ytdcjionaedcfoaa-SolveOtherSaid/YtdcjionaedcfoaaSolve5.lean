/- Walks of layer 7 (solve): search. -/
import Derived.Test.YtdcjionaedcfoaaSolve4
set_option linter.unusedVariables false
set_option linter.unusedSimpArgs false
namespace Go.Proofs.Ytdcjionaedcfoaa.Solve
open Go.RowKit Go.Proofs.Ytdcjionaedcfoaa.L Go.Proofs.Ytdcjionaedcfoaa.Gf Go.Proofs.Ytdcjionaedcfoaa.Poly Go.Proofs.Ytdcjionaedcfoaa.Rs

/-- Berlekamp and Massey, m rounds from r on. -/
def searchL (s : List UInt8) (e : Nat) : Nat → Nat → Int → List UInt8 → List UInt8 → Int × List UInt8
  | 0, _, l, loc, _ => (l, loc)
  | m + 1, r, l, loc, last =>
    if pgap loc s (r : Int) = 0 then searchL s e m (r + 1) l loc (0 :: last)
    else if 2 * l ≤ (r : Int) + e - 1 then searchL s e m (r + 1) ((r : Int) + e - l) (pplus loc last (pgap loc s (r : Int))) (pscaled loc (ginv (pgap loc s (r : Int))))
    else searchL s e m (r + 1) l (pplus loc last (pgap loc s (r : Int))) (0 :: last)
def psearch (s : List UInt8) (e p : Nat) (loc : List UInt8) : Int × List UInt8 := searchL s e (p - e) (e + 1) (e : Int) loc loc
theorem SolAt.under {w w' : World} {v p n pp Bd : Nat} {V3 V4 V5 : Value} (h : SolAt w v p n pp V3 V4 V5) (hv : v < Bd) (hp : p < Bd) (hb : Below Bd w w') : SolAt w' v p n pp V3 V4 V5 :=
  have q (i : Nat) {u : Value} (hc : w.cell? ⟨v, i, none⟩ = some u) : w'.cell? ⟨v, i, none⟩ = some u := (hb.cell (p := ⟨v, i, none⟩) hv).trans hc
  ⟨q 0 h.h0, q 1 h.h1, q 2 h.h2, q 3 h.h3, q 4 h.h4, q 5 h.h5, (hb.frozen (p := ⟨v, 5, none⟩) hv).trans h.free, FieldAt.under h.field hp hb⟩
/-- What the loop keeps: the solver with loc, and a list beside it. -/
structure SInv (w wr : World) (v p n pp : Nat) (V3 V4 : Value) (A5 : Option Addr) (m5 c5 : Nat) (A6 : Option Addr) (m6 c6 : Nat) (loc last : List UInt8) : Prop where
  sol : SolAt wr v p n pp V3 V4 (.slice A5 m5 c5)
  loc_ : Own B 5 wr (v + 1) (.slice A5 m5 c5) loc
  last_ : Own B 5 wr (v + 1) (.slice A6 m6 c6) last
  nil5 : (A5 = none → c5 = 0) ∧ m5 ≤ c5
  nil6 : (A6 = none → c6 = 0) ∧ m6 ≤ c6
  below : Below v w wr
theorem pscaled_len (a : List UInt8) (c : UInt8) : (pscaled a c).length = a.length := by simp [pscaled]
set_option maxRecDepth 100000 in
set_option maxHeartbeats 2000000 in
theorem search_any (v p n pp : Nat) (A3 A4 : Option Addr) (m3 c3 m4 c4 : Nat) (s loc0 : List UInt8) (w : World) (hs : LocAt w v p n pp (.slice A3 m3 c3) (.slice A4 m4 c4) loc0) (hp : p < v) (hpp : pp ≤ 64) (hm4 : m4 ≤ pp) (hl3 : Rd B w A3 m3 s) (hA3 : ∀ ad, A3 = some ad → ad.block < v) (hlen : loc0.length ≤ m4 + 1) :
    Calls Try.prog 112 #[.pointer (some ⟨v, 0, none⟩)] w fun e w' => e = .returned (I (psearch s m4 pp loc0).1) ∧ LocAt w' v p n pp (.slice A3 m3 c3) (.slice A4 m4 c4) (psearch s m4 pp loc0).2 ∧ Below v w w' := by
  have HLS0 := As.mk hl3; clear hl3
  have HA3 := As.mk hA3; clear hA3
  have HLN0 := As.mk hlen; clear hlen
  obtain ⟨A5, m5, c5, hs5, ho5, hA5, hC5⟩ := hs
  have HS5 := As.mk hs5
  have HO5 := As.mk ho5
  have HA5 := As.mk hA5
  have HC5 := As.mk hC5
  obtain ⟨x0, x1, x2, x3, x4, x5, x6, x7⟩ := hs5
  have hm5' : m5 ≤ 140737488351232 := by have := HO5.out.rd'.1; have := HLN0.out; omega
  have HM5 := As.mk hm5'
  clear x7 ho5 hA5 hC5 hm5'
  go_enter Try.func112, Try.ntmps112
  go_wp2_with (go_at_call 83; refine (clone_any A5 m5 c5 loc0 w HM5.out HO5.out.rd'.2).mono ?_; rintro e w1 ⟨A6, m6, c6, rfl, hown6, hA6, hC6, hb6⟩; have HO6 := As.mk hown6; have HA6 := As.mk hA6; have HC6 := As.mk hC6; have HB6 := As.mk hb6; clear hown6 hA6 hC6 hb6)
  have hvw : v < w.heap.size := World.block_lt_of_cell? w _ HS5.out.h0
  have HI : As (SInv w w1 v p n pp (.slice A3 m3 c3) (.slice A4 m4 c4) A5 m5 c5 A6 m6 c6 loc0 loc0) := ⟨⟨HS5.out.below HB6.out, HO5.out.below HB6.out, HO6.out.less hvw, ⟨HA5.out, HC5.out⟩, ⟨HA6.out, HC6.out⟩, HB6.out.mono (by omega)⟩⟩
  clear x0 x1 x2 x3 x4 x5 x6 HS5 HO5 HA5 HC5 HM5 HO6 HA6 HC6 HB6
  go_loopw [4, 5, 6] (fun li la ri wr => ∃ (r : Nat) (l : Int) (A5 : Option Addr) (m5 c5 : Nat) (A6 : Option Addr) (m6 c6 : Nat) (loc last : List UInt8), m4 + 1 ≤ r ∧ r ≤ pp + 1 ∧ 0 ≤ l ∧ l ≤ 200 ∧ ri = .int .i64 r ∧ li = .int .i64 l ∧ la = .slice A6 m6 c6 ∧ SInv w wr v p n pp (.slice A3 m3 c3) (.slice A4 m4 c4) A5 m5 c5 A6 m6 c6 loc last ∧ loc.length ≤ r ∧ last.length ≤ r ∧
    searchL s m4 (pp + 1 - r) r l loc last = psearch s m4 pp loc0) (fun _ _ ri _ => pp + 1 - (intOf ri).toNat)
  case atStart => exact ⟨m4 + 1, (m4 : Int), A5, m5, c5, A6, m6, c6, loc0, loc0, by omega, by omega, by omega, by omega, by go_num, rfl, rfl, HI.out, HLN0.out, HLN0.out, by rw [psearch]; congr 1; omega⟩
  case round =>
    clear HI HLN0
    obtain ⟨r, l, A5, m5, c5, A6, m6, c6, loc, last, hr1, hr2, hl1, hl2, rfl, rfl, rfl, hinv, hlo, hla, hres⟩ := hrel
    have HI := As.mk hinv; clear hinv
    have HLO := As.mk hlo; clear hlo
    have HLA := As.mk hla; clear hla
    have HRE := As.mk hres; clear hres
    obtain ⟨x0, x1, x2, x3, x4, x5, x6, x7⟩ := HI.out.sol
    clear x7
    by_cases hlt : r ≤ pp
    · have HS5 : As (SolAt wr v p n pp (.slice A3 m3 c3) (.slice A4 m4 c4) (.slice A5 m5 c5)) := ⟨HI.out.sol⟩
      have HO5 : As (Own B 5 wr (v + 1) (.slice A5 m5 c5) loc) := ⟨HI.out.loc_⟩
      have HO6 : As (Own B 5 wr (v + 1) (.slice A6 m6 c6) last) := ⟨HI.out.last_⟩
      have HA6 : As (A6 = none → c6 = 0) := ⟨HI.out.nil6.1⟩
      have HLS : As (Rd B wr A3 m3 s) := ⟨Rd.under HLS0.out HA3.out HI.out.below⟩
      have HR0 : As (0 ≤ (r : Int) ∧ (r : Int) ≤ 1000) := ⟨by omega⟩
      have HM5 : As (m5 ≤ 70368744177664) := ⟨by have := HO5.out.rd'.1; have := HLO.out; omega⟩
      have HM6 : As (m6 ≤ 70368744177664) := ⟨by have := HO6.out.rd'.1; have := HLA.out; omega⟩
      have HML : As ((1 + m6) * 1 ≤ 140737488355328) := ⟨by have := HM6.out; omega⟩
      have hvr : v < wr.heap.size := World.block_lt_of_cell? wr _ HS5.out.h0
      have HV := As.mk hvr
      have hstep := HRE.out
      rw [show pp + 1 - r = (pp + 1 - (r + 1)) + 1 by omega, searchL] at hstep
      generalize hd : pgap loc s (r : Int) = d at *
      have HD := As.mk hd
      clear hd HRE hvr
      by_cases hd0 : d = 0
      · subst hd0
        rw [if_pos rfl] at hstep
        have HST := As.mk hstep
        clear hstep
        go_wp2_with (first | (go_at_call 159; refine (gap_any v p n pp _ A3 A5 m3 c3 m5 c5 s loc (r : Int) wr HS5.out HR0.out HM5.out HLS.out HO5.out.rd'.2).mono ?_; rw [HD.out]; rintro e w1 ⟨rfl, hb1⟩; have HB1 := As.mk hb1; clear hb1; clear x0 x1 x2 x3 x4 x5 x6; obtain ⟨y0, y1, y2, y3, y4, y5, y6, y7⟩ := HS5.out.below HB1.out; clear y7) | ((with_reducible show wpList _ _ _ ({ dst := some 37, op := _, type := _, pos := _, after := _, guard := _ } :: _) _ _); refine lit_event 5 1 #[.int .u8 0] rfl (by go_simp) ?_; intro g1 wl hg1 hgl1 hbl1) | (at_builtin; refine append_event w1 w1.heap.size 39 5 (.int .u8 0) 1 1 _ _ rfl rfl Try.underlying39 info_u8 rfl (by decide) _ 1 [.int .u8 0] A6 m6 c6 (last.map B) rfl rfl HA6.out (own_blk (base := w1.heap.size) B [0] hg1.out hgl1.out (by simp)) (RdV.below (HO6.out.rd'.2.below HB1.out) hbl1.out) (oneB last) hbl1.out hbl1.out.size HML.out (by decide) (1 + m6) rfl ((0 :: last).map B) rfl ?_; intro A9 c9 w9 hown9 hA9 hC9 hb9 hg9 hat9))
        go_roundw
        case rel =>
          have hw9 : Below wr.heap.size wr w9 := below_then HB1.out HB1.out.size hb9.out
          exact ⟨r + 1, l, A5, m5, c5, A9, 1 + m6, c9, loc, 0 :: last, by omega, by omega, by omega, by omega, by go_num, rfl, rfl, ⟨HI.out.sol.below hw9, HI.out.loc_.below hw9, (Own.of_row hown9.out).less (Nat.le_trans (by have := HV.out; omega) HB1.out.size), HI.out.nil5, ⟨hA9.out, hC9.out⟩, HI.out.below.trans (hw9.mono (by have := HV.out; omega))⟩, by have := HLO.out; omega, by have := HLA.out; simp; omega, HST.out⟩
        case measure => simp [intOf]; omega
      · rw [if_neg hd0] at hstep
        have HD0 := As.mk hd0
        have e1 : ((d.toNat : Int) == 0) = false := u8_ne0 hd0
        clear hd0
        by_cases h2 : 2 * l ≤ (r : Int) + m4 - 1
        · rw [if_pos h2] at hstep
          have HST := As.mk hstep
          clear hstep
          go_wp2_with (first | (go_at_call 159; refine (gap_any v p n pp _ A3 A5 m3 c3 m5 c5 s loc (r : Int) wr HS5.out HR0.out HM5.out HLS.out HO5.out.rd'.2).mono ?_; rw [HD.out]; rintro e w1 ⟨rfl, hb1⟩; have HB1 := As.mk hb1; clear hb1; clear x0 x1 x2 x3 x4 x5 x6; obtain ⟨y0, y1, y2, y3, y4, y5, y6, y7⟩ := HS5.out.below HB1.out; clear y7) | (go_at_call 160; refine (plus_any v p n pp _ _ _ A5 A6 m5 c5 m6 c6 loc last d w1 (HS5.out.below HB1.out) HM5.out HM6.out (HO5.out.rd'.2.below HB1.out) (HO6.out.rd'.2.below HB1.out)).mono ?_; rintro e w2 ⟨A7, m7, c7, rfl, hown7, hA7, hC7, hb7⟩; have HO7 := As.mk hown7; have HA7 := As.mk hA7; have HC7 := As.mk hC7; have HB7 := As.mk hb7; clear hown7 hA7 hC7 hb7; clear y0 y1 y2 y3 y4 y5 y6; obtain ⟨z0, z1, z2, z3, z4, z5, z6, z7⟩ := (HS5.out.below HB1.out).below HB7.out; clear z7) | (go_at_call 138; refine (inv_any p d _ ((HS5.out.below HB1.out).below HB7.out).field HD0.out).mono ?_; rintro e w' ⟨rfl, rfl⟩) | (go_at_call 161; refine (scaled_any v p n pp _ _ _ A5 m5 c5 loc (ginv d) _ ((HS5.out.below HB1.out).below HB7.out) HM5.out ((HO5.out.rd'.2.below HB1.out).below HB7.out)).mono ?_; rintro e w3 ⟨A8, m8, c8, rfl, hown8, hA8, hC8, hb8⟩; have HO8 := As.mk hown8; have HA8 := As.mk hA8; have HC8 := As.mk hC8; have HB8 := As.mk hb8; clear hown8 hA8 hC8 hb8; clear z0 z1 z2 z3 z4 z5 z6; obtain ⟨t0, t1, t2, t3, t4, t5, t6, t7⟩ := ((HS5.out.below HB1.out).below HB7.out).below HB8.out; clear t7))
          go_roundw
          case rel =>
            have hw9 : Below wr.heap.size wr w3 := below_then (below_then HB1.out HB1.out.size HB7.out) (Nat.le_trans HB1.out.size HB7.out.size) HB8.out
            have hv : v < wr.heap.size := HV.out
            have hs1 := HB1.out.size
            have hs7 := HB7.out.size
            have hs8 := HB8.out.size
            refine ⟨r + 1, (r : Int) + m4 - l, A7, m7, c7, A8, m8, c8, pplus loc last d, pscaled loc (ginv d), by omega, by omega, by omega, by omega, by go_num, by go_num, rfl, ⟨(HI.out.sol.below hw9).setLoc hp _, Own.setLoc ((HO7.out.below HB8.out).less (by omega)) (by omega) _, Own.setLoc (HO8.out.less (by omega)) (by omega) _, ⟨HA7.out, HC7.out⟩, ⟨HA8.out, HC8.out⟩, Below.setCell (p := ⟨v, 5, none⟩) (HI.out.below.trans (hw9.mono (by omega))) (Nat.le_refl _) _⟩, ?_, ?_, HST.out⟩
            · rw [pplus_len]; have := HLO.out; have := HLA.out; omega
            · rw [pscaled_len]; have := HLO.out; omega
          case measure => simp [intOf]; omega
        · rw [if_neg h2] at hstep
          have HST := As.mk hstep
          clear hstep
          go_wp2_with (first | (go_at_call 159; refine (gap_any v p n pp _ A3 A5 m3 c3 m5 c5 s loc (r : Int) wr HS5.out HR0.out HM5.out HLS.out HO5.out.rd'.2).mono ?_; rw [HD.out]; rintro e w1 ⟨rfl, hb1⟩; have HB1 := As.mk hb1; clear hb1; clear x0 x1 x2 x3 x4 x5 x6; obtain ⟨y0, y1, y2, y3, y4, y5, y6, y7⟩ := HS5.out.below HB1.out; clear y7) | (go_at_call 160; refine (plus_any v p n pp _ _ _ A5 A6 m5 c5 m6 c6 loc last d w1 (HS5.out.below HB1.out) HM5.out HM6.out (HO5.out.rd'.2.below HB1.out) (HO6.out.rd'.2.below HB1.out)).mono ?_; rintro e w2 ⟨A7, m7, c7, rfl, hown7, hA7, hC7, hb7⟩; have HO7 := As.mk hown7; have HA7 := As.mk hA7; have HC7 := As.mk hC7; have HB7 := As.mk hb7; clear hown7 hA7 hC7 hb7; clear y0 y1 y2 y3 y4 y5 y6; obtain ⟨z0, z1, z2, z3, z4, z5, z6, z7⟩ := (HS5.out.below HB1.out).below HB7.out; clear z7) | ((with_reducible show wpList _ _ _ ({ dst := some 76, op := _, type := _, pos := _, after := _, guard := _ } :: _) _ _); refine lit_event 5 1 #[.int .u8 0] rfl (by go_simp) ?_; intro g1 wl hg1 hgl1 hbl1) | (at_builtin; refine append_event w2 w2.heap.size 39 5 (.int .u8 0) 1 1 _ _ rfl rfl Try.underlying39 info_u8 rfl (by decide) _ 1 [.int .u8 0] A6 m6 c6 (last.map B) rfl rfl HA6.out (own_blk (base := w2.heap.size) B [0] hg1.out hgl1.out (by simp)) (RdV.below ((HO6.out.rd'.2.below HB1.out).below HB7.out) hbl1.out) (oneB last) hbl1.out hbl1.out.size HML.out (by decide) (1 + m6) rfl ((0 :: last).map B) rfl ?_; intro A9 c9 w9 hown9 hA9 hC9 hb9 hg9 hat9; clear z0 z1 z2 z3 z4 z5 z6; obtain ⟨t0, t1, t2, t3, t4, t5, t6, t7⟩ := ((HS5.out.below HB1.out).below HB7.out).below hb9.out; clear t7))
          go_roundw
          case rel =>
            have hv : v < wr.heap.size := HV.out
            have hs1 := HB1.out.size
            have hs7 := HB7.out.size
            have hw9 : Below wr.heap.size wr w9 := below_then (below_then HB1.out HB1.out.size HB7.out) (Nat.le_trans HB1.out.size HB7.out.size) hb9.out
            have hs9 := hb9.out.size
            refine ⟨r + 1, l, A7, m7, c7, A9, 1 + m6, c9, pplus loc last d, 0 :: last, by omega, by omega, by omega, by omega, by go_num, rfl, rfl, ⟨(HI.out.sol.below hw9).setLoc hp _, Own.setLoc ((HO7.out.below hb9.out).less (by omega)) (by omega) _, Own.setLoc ((Own.of_row hown9.out).less (by omega)) (by omega) _, ⟨HA7.out, HC7.out⟩, ⟨hA9.out, hC9.out⟩, Below.setCell (p := ⟨v, 5, none⟩) (HI.out.below.trans (hw9.mono (by omega))) (Nat.le_refl _) _⟩, ?_, ?_, HST.out⟩
            · rw [pplus_len]; have := HLO.out; have := HLA.out; omega
            · have := HLA.out; simp; omega
          case measure => simp [intOf]; omega
    · have hr : r = pp + 1 := by omega
      subst hr
      have hstep := HRE.out
      rw [Nat.sub_self, searchL] at hstep
      have HST := As.mk hstep
      clear hstep HRE
      go_wp2
      go_ret
      refine ⟨by rw [← HST.out]; rfl, ⟨A5, m5, c5, by rw [← HST.out]; exact ⟨HI.out.sol, HI.out.loc_, HI.out.nil5.1, HI.out.nil5.2⟩⟩, HI.out.below⟩
end Go.Proofs.Ytdcjionaedcfoaa.Solve
