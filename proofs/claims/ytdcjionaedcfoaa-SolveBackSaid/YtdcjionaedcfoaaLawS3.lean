/- The law of layer 7: SolveBack. -/
import Derived.Test.YtdcjionaedcfoaaLawS2
import Derived.Test.YtdcjionaedcfoaaBackP
set_option linter.unusedVariables false
set_option linter.unusedSimpArgs false
namespace Go.Proofs.Ytdcjionaedcfoaa.LawS
open Go.RowKit Go.Proofs.Ytdcjionaedcfoaa.L Go.Proofs.Ytdcjionaedcfoaa.Gf Go.Proofs.Ytdcjionaedcfoaa.Poly Go.Proofs.Ytdcjionaedcfoaa.Rs Go.Proofs.Ytdcjionaedcfoaa.Solve Go.Proofs.Ytdcjionaedcfoaa.Ref Go.Proofs.Ytdcjionaedcfoaa.Range

/-! ### Within -/
def withinB (m e o : Nat) : Bool := decide (e ≤ m ∧ o ≤ (m - e) / 2)
set_option maxRecDepth 100000 in
theorem within_any (c p n k : Nat) (A : Option Addr) (m cc : Nat) (a b : Nat) (w : World) (hc : CodeAt w c p n k A m cc) (ha : a ≤ 1000) (hb : b ≤ 1000) :
    Calls Try.prog 66 #[.pointer (some ⟨c, 0, none⟩), I a, I b] w fun e w' => e = .returned (.bool (withinB (n - k) a b)) ∧ Below w.heap.size w w' := by
  have hkn := hc.kn
  have HC := As.mk hc; clear hc
  go_enter Try.func66, Try.ntmps66
  go_wp2_with fail
  refine (size_any c p n k A m cc w HC.out).mono ?_
  rintro e w1 ⟨rfl, hb1⟩
  have HB1 := As.mk hb1; clear hb1
  by_cases h1 : a ≤ n - k
  · have e1 : decide ((a : Int) ≤ (n : Int) - k) = true := decide_eq_true (by omega)
    have q1 : ((n : Int) - k - a).tdiv 2 = (((n - k - a) / 2 : Nat) : Int) := by
      rw [show ((n : Int) - k - a) = ((n - k - a : Nat) : Int) by omega]; rfl
    by_cases h2 : b ≤ (n - k - a) / 2
    · have H : As (withinB (n - k) a b = true) := ⟨decide_eq_true ⟨h1, h2⟩⟩
      have e2 : decide ((b : Int) ≤ ((n : Int) - k - a) / 2) = true := decide_eq_true (by omega)
      clear q1
      go_wp2_with fail
      go_ret
      exact ⟨by rw [H.out]; rfl, HB1.out⟩
    · have H : As (withinB (n - k) a b = false) := ⟨decide_eq_false fun h => h2 h.2⟩
      have e2 : decide ((b : Int) ≤ ((n : Int) - k - a) / 2) = false := decide_eq_false (by omega)
      clear q1
      go_wp2_with fail
      go_ret
      exact ⟨by rw [H.out]; rfl, HB1.out⟩
  · have e1 : decide ((a : Int) ≤ (n : Int) - k) = false := decide_eq_false (by omega)
    have H : As (withinB (n - k) a b = false) := ⟨decide_eq_false fun h => h1 h.1⟩
    clear h1
    go_wp2_with fail
    go_ret
    exact ⟨by rw [H.out]; rfl, HB1.out⟩

/-! ### What came in -/
/-- A slice of places, each with a byte. -/
def RdT (w : World) (A : Option Addr) (n : Nat) (ts : List (Int × UInt8)) : Prop :=
  ts.length = n ∧ n ≤ 9223372036854775807 ∧ (0 < n → ∃ ad, A = some ad ∧ ∀ j t, ts[j]? = some t → w.cell? (ad.add (j * 2)) = some (I t.1) ∧ w.cell? ⟨(ad.add (j * 2)).block, (ad.add (j * 2)).off + 1, none⟩ = some (B t.2))
theorem RdT.below {w w1 : World} {A : Option Addr} {n : Nat} {ts : List (Int × UInt8)} (h : RdT w A n ts) (hb : Below w.heap.size w w1) : RdT w1 A n ts :=
  ⟨h.1, h.2.1, fun hn => by
    obtain ⟨ad, e, hc⟩ := h.2.2 hn
    exact ⟨ad, e, fun j t hj => ⟨(hb.cell (World.block_lt_of_cell? w _ (hc j t hj).1)).trans (hc j t hj).1, (hb.cell (World.block_lt_of_cell? w _ (hc j t hj).2)).trans (hc j t hj).2⟩⟩⟩
theorem RdT.at_ {w : World} {A : Option Addr} {n : Nat} {ts : List (Int × UInt8)} (h : RdT w A n ts) (k : Nat) (hk : k < n) :
    ∃ ad, A = some ad ∧ ∃ x y, ts[k]? = some (x, y) ∧ w.cell? (ad.add (k * 2)) = some (I x) ∧ w.cell? ⟨(ad.add (k * 2)).block, (ad.add (k * 2)).off + 1, none⟩ = some (B y) := by
  obtain ⟨ad, e, hc⟩ := h.2.2 (by omega)
  have hl := h.1
  have := hc k _ (List.getElem?_eq_getElem (show k < ts.length by omega))
  exact ⟨ad, e, _, _, List.getElem?_eq_getElem _, this⟩
/-- A struct of three cells. -/
def Three (w : World) (b : Nat) (V0 V1 V2 : Value) : Prop := w.cell? ⟨b, 0, none⟩ = some V0 ∧ w.cell? ⟨b, 1, none⟩ = some V1 ∧ w.cell? ⟨b, 2, none⟩ = some V2
theorem Three.below {w w1 : World} {b : Nat} {V0 V1 V2 : Value} (h : Three w b V0 V1 V2) (hb : Below w.heap.size w w1) : Three w1 b V0 V1 V2 :=
  ⟨(hb.cell (p := ⟨b, 0, none⟩) (World.block_lt_of_cell? w _ h.1)).trans h.1, (hb.cell (p := ⟨b, 1, none⟩) (World.block_lt_of_cell? w _ h.2.1)).trans h.2.1, (hb.cell (p := ⟨b, 2, none⟩) (World.block_lt_of_cell? w _ h.2.2)).trans h.2.2⟩
abbrev GSet (w : World) (b : Nat) (S : List Int) : Prop := BSet Try.prog 3 4 .i64 w b S
theorem zeroB (w : World) : (zeroValue 4).run Try.prog w = .ok (.bool false) w := by kernel_rfl
theorem wf64 {i : Int} (h : -1000000 ≤ i ∧ i ≤ 1000000) : (Lit.int .i64 i).wf = true := by
  simp [Lit.wf, IntKind.min, IntKind.max, IntKind.signed, IntKind.bits]; omega
theorem pmendX_out {n k : Nat} {word : List UInt8} {er : List Int} (h : er.any (outB n) = true) : pmendX psearch n k word er = (1, [], []) := by
  unfold pmendX
  split
  · rw [pmendall, if_pos h]
  · rfl
theorem mem_gath {l : List Int} {i : Int} : i ∈ gath l ↔ i ∈ l := by rw [gath, mem_foldS]; simp
theorem gath_snoc {l : List Int} {k : Nat} {x : Int} (h : l[k]? = some x) : gath (l.take (k + 1)) = addS (gath (l.take k)) x := by
  rw [gath, gath, List.take_add_one, h]; simp
theorem gath_le (l : List Int) : (gath l).length ≤ l.length := sub_len (foldS_nodup l [] List.nodup_nil) fun x hx => mem_gath.1 hx

set_option maxRecDepth 100000 in
set_option maxHeartbeats 8000000 in
theorem back_any (n k : Int) (A A2 A3 : Option Addr) (m c m2 c2 m3 c3 : Nat) (data : List UInt8) (er : List Int) (ts : List (Int × UInt8)) (w : World) (hl : Rd B w A m data) (hmc : m ≤ c) (hAc : A = none → c = 0) (hl2 : Rd I w A2 m2 er) (hwf : ∀ z ∈ er, (Lit.int .i64 z).wf = true) (hl3 : RdT w A3 m3 ts) :
    Calls Try.prog 11 #[I n, I k, .agg #[.slice A m c, .slice A2 m2 c2, .slice A3 m3 c3]] w fun e w' => e = .returned (.bool true) ∧ Below w.heap.size w w' := by
  have HL := As.mk hl; clear hl
  have HL2 := As.mk hl2; clear hl2
  have HL3 := As.mk hl3; clear hl3
  have HWF := As.mk hwf; clear hwf
  have HAC := As.mk hAc; clear hAc
  go_enter Try.func11, Try.ntmps11
  go_wp2_with fail
  generalize hw0 : w.alloc (.cells #[.slice A m c, .slice A2 m2 c2, .slice A3 m3 c3] 116) = w0
  have HT0 : As (Three w0 w.heap.size (.slice A m c) (.slice A2 m2 c2) (.slice A3 m3 c3)) := ⟨by
    have hc (i : Nat) := blk_cell (blk_new w (.cells #[.slice A m c, .slice A2 m2 c2, .slice A3 m3 c3] 116)) i
    rw [← hw0]; exact ⟨hc 0, hc 1, hc 2⟩⟩
  have HB0 : As (Below w.heap.size w w0) := ⟨hw0 ▸ alloc_below _ _⟩
  clear hw0
  generalize hb : w.heap.size = b at *
  have HBb := As.mk hb
  clear hb
  refine (awake_any _).mono ?_
  rintro e w1 ⟨rfl, hb1⟩
  have HT1 : As (Three w1 b (.slice A m c) (.slice A2 m2 c2) (.slice A3 m3 c3)) := ⟨HT0.out.below hb1⟩
  have HB1 : As (Below b w w1) := ⟨below_then HB0.out (HBb.out ▸ HB0.out.size) hb1⟩
  clear hb1 HT0 HB0
  obtain ⟨x0, x1, x2⟩ := HT1.out
  go_wp2_with fail
  refine (there_any n k w1).mono ?_
  by_cases ht : thereB n k = true
  · have hth := of_decide_eq_true ht
    rw [ht]
    clear ht
    rintro e w' ⟨rfl, rfl⟩
    obtain ⟨N, rfl⟩ : ∃ N : Nat, n = N := ⟨n.toNat, by omega⟩
    obtain ⟨K, rfl⟩ : ∃ K : Nat, k = K := ⟨k.toNat, by omega⟩
    have hth' : 1 ≤ K ∧ K < N ∧ N ≤ 255 ∧ N - K ≤ 64 := by omega
    have HTH := As.mk hth'
    clear hth
    by_cases hmK : K = m
    · subst hmK
      have e1 : ((K : Int) != (K : Int)) = false := by simp
      have e1' : (K != K) = false := by simp
      by_cases h60 : m3 ≤ 60
      · have e2 : decide ((60 : Int) < (m3 : Int)) = false := decide_eq_false (by omega)
        by_cases h602 : m2 ≤ 60
        · have e3 : decide ((60 : Int) < (m2 : Int)) = false := decide_eq_false (by omega)
          clear hth'
          go_wp2_with fail
          refine (Gf.new_any w1).mono ?_
          rintro e w2 ⟨rfl, hf, hb2⟩
          have HF := As.mk hf
          have HB12 := As.mk hb2
          clear hf hb2 x0 x1 x2 e1 e1' e2 e3
          go_wp2_with fail
          refine (Rs.new_any w1.heap.size N K w2 HF.out HTH.out).mono ?_
          rintro e w3 ⟨cd, Ag, mg, cg, rfl, _, hcode, hb3⟩
          have HC3 := As.mk hcode
          have HB13 : As (Below w1.heap.size w1 w3) := ⟨below_then HB12.out HB12.out.size hb3⟩
          have HT3 : As (Three w3 b (.slice A K c) (.slice A2 m2 c2) (.slice A3 m3 c3)) := ⟨HT1.out.below HB13.out⟩
          have HB3 : As (Below b w w3) := ⟨HB1.out.trans (HB13.out.mono (HBb.out ▸ HB1.out.size))⟩
          have HL3' : As (Rd B w3 A K data) := ⟨HL.out.below (HBb.out ▸ HB3.out)⟩
          clear hcode hb3 HF HB12 HB13 HT1 HB1
          obtain ⟨x0, x1, x2⟩ := HT3.out
          go_wp2_with fail
          clear x0 x1 x2
          refine (enc_any cd w1.heap.size N K Ag mg cg A c data w3 HC3.out HL3'.out hmc HAC.out (gen_ne _) (rest_len _ _)).mono ?_
          have hwl := encode_len (N - K) data
          have hwr := encode_right (N - K) data
          rw [HL3'.out.len] at hwl
          generalize encodeOf (N - K) data = wd at *
          have hwl' : wd.length = N := by have := HTH.out; omega
          have HWL := As.mk hwl'
          have HWR := As.mk hwr
          clear hwl hwr hwl'
          rintro e w4 ⟨A4, m4, c4, rfl, hown4, _, hC4, hb4⟩
          have hm4 : m4 = N := by rw [hown4.rd'.1, HWL.out]
          subst hm4
          have HW4 : As (Rd B w4 A4 m4 wd) := ⟨hown4.rd'.2⟩
          have HT4 : As (Three w4 b (.slice A K c) (.slice A2 m2 c2) (.slice A3 m3 c3)) := ⟨HT3.out.below hb4⟩
          have HB4 : As (Below b w w4) := ⟨HB3.out.trans (hb4.mono (HBb.out ▸ HB3.out.size))⟩
          have HC4 : As (CodeAt w4 cd w1.heap.size m4 K Ag mg cg) := ⟨HC3.out.below hb4⟩
          have HBL4 : As (b ≤ w4.heap.size) := ⟨HBb.out ▸ HB4.out.size⟩
          clear hown4 hC4 hb4 HT3 HB3 HL3' HC3
          obtain ⟨x0, x1, x2⟩ := HT4.out
          go_wp2_with ((with_reducible show wpList _ _ _ ({ dst := some 69, op := _, type := _, pos := _, after := _, guard := _ } :: _) _ _); refine set_make (kt := 3) (et := 4) (q := .i64) rfl (by go_simp; rfl) ?_; intro w5 hs5 hb5 _; have HS5 := As.mk hs5; have HB5 := As.mk hb5; clear hs5 hb5 x0 x1 x2; obtain ⟨x0, x1, x2⟩ := HT4.out.below HB5.out)
          clear x0 x1 x2
          have HE4 : As (Rd I w4 A2 m2 er) := ⟨HL2.out.below (HBb.out ▸ HB4.out)⟩
          have HTS4 : As (RdT w4 A3 m3 ts) := ⟨HL3.out.below (HBb.out ▸ HB4.out)⟩
          have HW5 : As (Rd B w5 A4 m4 wd) := ⟨HW4.out.below HB5.out⟩
          have HT5 : As (Three w5 b (.slice A K c) (.slice A2 m2 c2) (.slice A3 m3 c3)) := ⟨HT4.out.below HB5.out⟩
          have HB05 : As (Below b w w5) := ⟨HB4.out.trans (HB5.out.mono HBL4.out)⟩
          have HC5 : As (CodeAt w5 cd w1.heap.size m4 K Ag mg cg) := ⟨HC4.out.below HB5.out⟩
          have HE5 : As (Rd I w5 A2 m2 er) := ⟨HL2.out.below (HBb.out ▸ HB05.out)⟩
          have HTS5 : As (RdT w5 A3 m3 ts) := ⟨HL3.out.below (HBb.out ▸ HB05.out)⟩
          have KEEP4 : As (∀ W, Below w4.heap.size w5 W → Rd B W A4 m4 wd ∧ Three W b (.slice A K c) (.slice A2 m2 c2) (.slice A3 m3 c3) ∧ CodeAt W cd w1.heap.size m4 K Ag mg cg ∧ Rd I W A2 m2 er ∧ RdT W A3 m3 ts) := ⟨fun W h => by
            have h' : Below w4.heap.size w4 W := HB5.out.trans h
            exact ⟨HW4.out.below h', HT4.out.below h', HC4.out.below h', HE4.out.below h', HTS4.out.below h'⟩⟩
          have hbG := HS5.out.lt
          generalize hg : w4.heap.size = bG at *
          have HBG := As.mk hg
          have hbbG : b ≤ bG := HBL4.out
          clear hg HW4 HT4 HB4 HC4 HB5 HE4 HTS4
          go_loopw [73] (fun i wr => ∃ q : Nat, q ≤ m2 ∧ i = .int .i64 q ∧ GSet wr bG (gath (er.take q)) ∧ (er.take q).any (outB m4) = false ∧ Below bG w5 wr ∧ w5.heap.size ≤ wr.heap.size) (fun i _ => m2 - (intOf i).toNat)
          case atStart => exact ⟨0, by omega, rfl, HS5.out, rfl, Below.refl _ _, Nat.le_refl _⟩
          case round =>
            obtain ⟨q, hq, rfl, hgs, hin, hbl, hsz⟩ := hrel
            have HGS := As.mk hgs
            have HIN := As.mk hin
            have HBL := As.mk hbl
            have HSZ := As.mk hsz
            clear hgs hin hbl hsz
            have KEEP : As (Rd B wr A4 m4 wd ∧ Three wr b (.slice A K c) (.slice A2 m2 c2) (.slice A3 m3 c3) ∧ CodeAt wr cd w1.heap.size m4 K Ag mg cg ∧ Rd I wr A2 m2 er ∧ RdT wr A3 m3 ts) := ⟨KEEP4.out wr HBL.out⟩
            by_cases hlt : q < m2
            · obtain ⟨ad, rfl, x, hx, hcr⟩ := KEEP.out.2.2.2.1.at_ q hlt
              have hxm := List.mem_of_getElem? hx
              have HXM := As.mk hxm
              have HXX := As.mk hx
              have hxw := HWF.out x hxm
              clear hx hxm
              by_cases h0 : x < 0
              · have e1 : decide (x < 0) = true := decide_eq_true h0
                have HO : As (er.any (outB m4) = true) := ⟨List.any_eq_true.2 ⟨x, HXM.out, by simp [outB, h0]⟩⟩
                clear h0
                obtain ⟨x0, x1, x2⟩ := KEEP.out.2.1
                go_wp2_with fail
                refine (mend_word cd w1.heap.size m4 K Ag mg cg A4 (some ad) m4 c4 m2 c2 wd er wr KEEP.out.2.2.1 KEEP.out.1 (KEEP.out.2.2.2.1) (by omega)).mono ?_
                rw [pmendX_out HO.out]
                rintro e w6 ⟨hb6, A8, m8, c8, A9, m9, c9, rfl, _, _, _, _⟩
                have HB6 : As (Below b w w6) := ⟨HB05.out.trans ((HBL.out.mono hbbG).trans (hb6.mono (Nat.le_trans (Nat.le_of_lt (Nat.lt_of_le_of_lt hbbG hbG)) HSZ.out)))⟩
                clear hb6
                go_wp2_with fail
                go_ret
                exact ⟨rfl, HBb.out ▸ HB6.out⟩
              · have e1 : decide (x < 0) = false := decide_eq_false h0
                by_cases h1 : (m4 : Int) ≤ x
                · have e2 : decide ((m4 : Int) ≤ x) = true := decide_eq_true h1
                  have HO : As (er.any (outB m4) = true) := ⟨List.any_eq_true.2 ⟨x, HXM.out, by simp [outB, h1]⟩⟩
                  clear h0 h1
                  obtain ⟨x0, x1, x2⟩ := KEEP.out.2.1
                  go_wp2_with fail
                  refine (mend_word cd w1.heap.size m4 K Ag mg cg A4 (some ad) m4 c4 m2 c2 wd er wr KEEP.out.2.2.1 KEEP.out.1 (KEEP.out.2.2.2.1) (by omega)).mono ?_
                  rw [pmendX_out HO.out]
                  rintro e w6 ⟨hb6, A8, m8, c8, A9, m9, c9, rfl, _, _, _, _⟩
                  have HB6 : As (Below b w w6) := ⟨HB05.out.trans ((HBL.out.mono hbbG).trans (hb6.mono (Nat.le_trans (Nat.le_of_lt (Nat.lt_of_le_of_lt hbbG hbG)) HSZ.out)))⟩
                  clear hb6
                  go_wp2_with fail
                  go_ret
                  exact ⟨rfl, HBb.out ▸ HB6.out⟩
                · have e2 : decide ((m4 : Int) ≤ x) = false := decide_eq_false h1
                  have HNI : As ((er.take (q + 1)).any (outB m4) = false) := ⟨by rw [List.take_add_one, HXX.out, List.any_append, HIN.out]; simp [outB, e1, e2]⟩
                  have HGN : As (gath (er.take (q + 1)) = addS (gath (er.take q)) x) := ⟨gath_snoc HXX.out⟩
                  have HGL : As ((gath (er.take q)).length < maxLen) := ⟨by have := gath_le (er.take q); rw [List.length_take] at this; simp only [maxLen]; omega⟩
                  have HXW := As.mk hxw
                  clear h0 h1 hxw
                  go_wp2_with (at_mapUpdate; refine set_add (kt := 3) (et := 4) (q := .i64) rfl _ _ _ _ rfl Try.underlying3 Try.underlying4 Try.underlying119 HGS.out x rfl rfl rfl HGL.out HXW.out ?_; intro w6 hs6 hg6; have HS6 := As.mk hs6; have HG6 := As.mk hg6; clear hs6 hg6)
                  go_roundw
                  case rel => exact ⟨q + 1, by omega, by go_num, by rw [HGN.out]; exact HS6.out, HNI.out, HBL.out.grown HG6.out (by have := HSZ.out; omega) (fun k hk => by cases hk; exact Nat.le_refl _), Nat.le_trans HSZ.out HG6.out.size⟩
                  case measure => simp [intOf]; omega
            · have hqm : q = m2 := by omega
              subst hqm
              have HALL : As (er.any (outB m4) = false) := ⟨by have := HIN.out; rwa [List.take_of_length_le (by rw [HE5.out.len]; exact Nat.le_refl _)] at this⟩
              have HGA : As (GSet wr bG (gath er)) := ⟨by have := HGS.out; rwa [List.take_of_length_le (by rw [HE5.out.len]; exact Nat.le_refl _)] at this⟩
              have HB0R : As (Below b w wr) := ⟨HB05.out.trans (HBL.out.mono hbbG)⟩
              have HBR : As (b ≤ wr.heap.size ∧ bG < wr.heap.size) := ⟨by have := HSZ.out; omega⟩
              clear HGS HIN HBL HSZ hbG
              obtain ⟨g4, hA4, hg4, _⟩ : ∃ g4, A4 = some g4 ∧ g4.block < wr.heap.size ∧ True := by
                obtain ⟨ad, e, x, hx, hc⟩ := KEEP.out.1.at_ 0 (by have := HTH.out; omega)
                refine ⟨ad, e, ?_, trivial⟩
                have := World.block_lt_of_cell? _ _ hc
                simpa [Addr.add] using this
              subst hA4
              clear hlt
              go_wp2_with (first | ((with_reducible show wpList _ _ _ ({ dst := some 98, op := _, type := _, pos := _, after := _, guard := _ } :: _) _ _); refine lit_event 5 0 #[] rfl (by go_simp) ?_; intro g6 w6 hg6 hl6 hb6) | (at_builtin; refine append_event wr wr.heap.size 39 5 (.int .u8 0) 1 1 _ _ rfl rfl Try.underlying39 info_u8 rfl (by decide) _ 0 [] (some g4) m4 c4 (wd.map B) rfl rfl (fun h => by cases h) (own_blk B [] hg6.out hl6.out (by simp)) (RdV.below KEEP.out.1 hb6.out) (oneB _) hb6.out hb6.out.size (by have := HTH.out; omega) (by decide) m4 (by omega) _ rfl ?_; intro A7 c7 w7 hown7 _ _ hb7 _ _) | ((with_reducible show wpList _ _ _ ({ dst := some 101, op := _, type := _, pos := _, after := _, guard := _ } :: _) _ _); refine set_make (kt := 3) (et := 4) (q := .i64) rfl (by go_simp; rfl) ?_; intro w8 hs8 hb8 hz8; have HS8 := As.mk hs8; have HB8 := As.mk hb8; clear hs8 hb8; obtain ⟨x0, x1, x2⟩ := (KEEP.out.2.1.below hb7.out).below HB8.out))
              clear x0 x1 x2
              obtain ⟨W0, hW0⟩ : ∃ W0 : World, W0 = wr := ⟨_, rfl⟩
              subst hW0
              have HO7 : As (L.Own B 5 w7 W0.heap.size (.slice A7 m4 c7) wd) := ⟨Own.of_row (by have := hown7.out; simpa using this)⟩
              obtain ⟨g7, hA7, hge7, hlt7, _, _⟩ := HO7.out.at_ 0 (by rw [HWL.out]; have := HTH.out; omega)
              subst hA7
              have HO8 : As (L.Own B 5 w8 W0.heap.size (.slice (some ⟨g7, 0, none⟩) m4 c7) wd) := ⟨HO7.out.below HB8.out⟩
              have HBR8 : As (Below W0.heap.size W0 w8) := ⟨hb7.out.trans (HB8.out.mono hb7.out.size)⟩
              have KEEP2 : As (∀ W, Below W0.heap.size W0 W → (Rd B W (some g4) m4 wd ∧ Three W b (.slice A K c) (.slice A2 q c2) (.slice A3 m3 c3) ∧ CodeAt W cd w1.heap.size m4 K Ag mg cg ∧ Rd I W A2 q er ∧ RdT W A3 m3 ts) ∧ GSet W bG (gath er) ∧ Below b w W) := ⟨fun W h => by
                obtain ⟨k1, k2, k3, k4, k5⟩ := KEEP.out
                exact ⟨⟨k1.below h, k2.below h, k3.below h, k4.below h, k5.below h⟩, HGA.out.below h, HB0R.out.trans (h.mono HBR.out.1)⟩⟩
              generalize hbO : w7.heap.size = bO at *
              have HBO := As.mk hbO
              have hws : W0.heap.size ≤ g7 ∧ g7 < bO ∧ bO < w8.heap.size ∧ bG < W0.heap.size := ⟨hge7, hlt7, hz8, HBR.out.2⟩
              clear hbO HO7 hown7 hb7 hb6 hl6 hg6 HB8 KEEP KEEP4 HGA HB0R HS5 HW5 HT5 HB05 HC5 HE5 HTS5 hge7 hlt7 hz8 hg4 HBG hbbG hq HL3 HL2 HL
              generalize hn0 : W0.heap.size = n0 at *
              have HN0 := As.mk hn0
              clear hn0
              go_loopw [105] (fun i W => ∃ (k : Nat) (cur : List UInt8) (O : List Int), k ≤ m3 ∧ i = .int .i64 k ∧ L.Own B 5 W n0 (.slice (some ⟨g7, 0, none⟩) m4 c7) cur ∧ GSet W bO O ∧ O.length ≤ k ∧ (∀ i : Nat, i < m4 → Solve.differ cur wd i = true → (i : Int) ∈ er ∨ (i : Int) ∈ O) ∧ Below n0 W0 W ∧ w8.heap.size ≤ W.heap.size) (fun i _ => m3 - (intOf i).toNat)
              case atStart => exact ⟨0, wd, [], by omega, rfl, HO8.out, HS8.out, Nat.le_refl _, fun i hi h => by simp [Solve.differ] at h, HBR8.out, Nat.le_refl _⟩
              case round =>
                obtain ⟨W, hWW⟩ : ∃ W : World, W = wr := ⟨_, rfl⟩
                subst hWW
                obtain ⟨k, cur, O, hk, rfl, hown, hgs, hol, hdf, hbl, hsz⟩ := hrel
                have HOW := As.mk hown
                have HGS := As.mk hgs
                have HDF := As.mk hdf
                have HBL := As.mk hbl
                have HSZ := As.mk hsz
                obtain ⟨hkeep, hgo, hb0⟩ := KEEP2.out W hbl
                have HKEEP := As.mk hkeep
                have HGO := As.mk hgo
                have HB0 := As.mk hb0
                clear hown hgs hdf hbl hsz hkeep hgo hb0
                by_cases hlt : k < m3
                · obtain ⟨ad, rfl, x, y, hxy, hc0, hc1⟩ := HKEEP.out.2.2.2.2.at_ k hlt
                  clear hxy
                  by_cases h0 : x < 0
                  · have e1 : decide (x < 0) = true := decide_eq_true h0
                    clear h0
                    go_wp2_with fail
                    go_ret
                    exact ⟨rfl, HBb.out ▸ HB0.out.trans ((alloc_below W _).mono (HBb.out ▸ HB0.out.size))⟩
                  · have e1 : decide (x < 0) = false := decide_eq_false h0
                    by_cases h1 : (m4 : Int) ≤ x
                    · have e2 : decide ((m4 : Int) ≤ x) = true := decide_eq_true h1
                      clear h0 h1
                      go_wp2_with fail
                      go_ret
                      exact ⟨rfl, HBb.out ▸ HB0.out.trans ((alloc_below W _).mono (HBb.out ▸ HB0.out.size))⟩
                    · have e2 : decide ((m4 : Int) ≤ x) = false := decide_eq_false h1
                      obtain ⟨j, rfl⟩ : ∃ j : Nat, x = j := ⟨x.toNat, by omega⟩
                      have hjm : j < m4 := by omega
                      go_wp2_with fail
                      generalize hWa : W.alloc (.cells #[.int .i64 (j : Int), .int .u8 (y.toNat : Int)] 121) = Wa
                      have HS0 : As (Wa.cell? ⟨W.heap.size, 0, none⟩ = some (I j) ∧ Wa.cell? ⟨W.heap.size, 1, none⟩ = some (B y)) := ⟨by
                        have hc (i : Nat) := blk_cell (blk_new W (.cells #[.int .i64 (j : Int), .int .u8 (y.toNat : Int)] 121)) i
                        rw [← hWa]; exact ⟨hc 0, hc 1⟩⟩
                      have HWa : As (Below W.heap.size W Wa) := ⟨hWa ▸ alloc_below _ _⟩
                      have HSa : As (W.heap.size < Wa.heap.size) := ⟨by rw [← hWa]; simp⟩
                      have HNB : As (g7 < W.heap.size ∧ bO < W.heap.size) := ⟨by have := HSZ.out; omega⟩
                      clear hWa hc0 hc1 h0 h1 e1 e2
                      generalize hnb : W.heap.size = nb at *
                      have HWN := As.mk hnb
                      clear hnb
                      obtain ⟨xj, hxj, hcj, hfj⟩ := (HOW.out.below (HWN.out ▸ HWa.out)).at' j hjm
                      have HXJ := As.mk hxj
                      have HCJ := As.mk hcj
                      have HFJ := As.mk hfj
                      clear hxj hcj hfj
                      refine regionT [0, 1, 2, 3, 4, 5, 6, 7, 8, 9] mixed (by kernel_rfl) (by decide) (by kernel_rfl) ?_
                      intro wd2 hd hds
                      have HBD : As (Below Wa.heap.size Wa wd2) := ⟨hd.out _⟩
                      have HC0 : As (wd2.cell? ⟨nb, 0, none⟩ = some (I j)) := ⟨(HBD.out.cell (p := ⟨nb, 0, none⟩) HSa.out).trans HS0.out.1⟩
                      have HC1 : As (wd2.cell? ⟨nb, 1, none⟩ = some (B y)) := ⟨(HBD.out.cell (p := ⟨nb, 1, none⟩) HSa.out).trans HS0.out.2⟩
                      have HCX : As (wd2.cell? ⟨g7, j, none⟩ = some (B xj)) := ⟨(HBD.out.cell (p := ⟨g7, j, none⟩) (World.block_lt_of_cell? _ _ HCJ.out)).trans HCJ.out⟩
                      have hfz : wd2.frozen? ⟨g7, j, none⟩ = false := ((HBD.out.frozen (p := ⟨g7, j, none⟩) (World.block_lt_of_cell? _ _ HCJ.out))).trans HFJ.out
                      clear hd hds
                      iterate 2 (refine wpT_float rfl rfl rfl (fun w' => by go_simp; rfl) ?_; try simp only [Act.put, List.getElem_toArray, List.getElem_cons_zero, List.getElem_cons_succ, List.setIfInBounds_toArray, List.set_cons_zero, List.set_cons_succ])
                      (refine wpT_load rfl rfl rfl rfl (fun w' hw' => by have hq : w'.cell? ⟨nb, 0, none⟩ = some (I j) := (hw'.cell (p := ⟨nb, 0, none⟩) (World.block_lt_of_cell? _ _ HC0.out)).trans HC0.out; go_simp; rfl) ?_; try simp only [Act.put, List.getElem_toArray, List.getElem_cons_zero, List.getElem_cons_succ, List.setIfInBounds_toArray, List.set_cons_zero, List.set_cons_succ])
                      iterate 1 (refine wpT_float rfl rfl rfl (fun w' => by go_simp; rfl) ?_; try simp only [Act.put, List.getElem_toArray, List.getElem_cons_zero, List.getElem_cons_succ, List.setIfInBounds_toArray, List.set_cons_zero, List.set_cons_succ])
                      (refine wpT_load rfl rfl rfl rfl (fun w' hw' => by have hq : w'.cell? ⟨g7, j, none⟩ = some (B xj) := (hw'.cell (p := ⟨g7, j, none⟩) (World.block_lt_of_cell? _ _ HCX.out)).trans HCX.out; go_simp; rfl) ?_; try simp only [Act.put, List.getElem_toArray, List.getElem_cons_zero, List.getElem_cons_succ, List.setIfInBounds_toArray, List.set_cons_zero, List.set_cons_succ])
                      iterate 1 (refine wpT_float rfl rfl rfl (fun w' => by go_simp; rfl) ?_; try simp only [Act.put, List.getElem_toArray, List.getElem_cons_zero, List.getElem_cons_succ, List.setIfInBounds_toArray, List.set_cons_zero, List.set_cons_succ])
                      (refine wpT_load rfl rfl rfl rfl (fun w' hw' => by have hq : w'.cell? ⟨nb, 1, none⟩ = some (B y) := (hw'.cell (p := ⟨nb, 1, none⟩) (World.block_lt_of_cell? _ _ HC1.out)).trans HC1.out; go_simp; rfl) ?_; try simp only [Act.put, List.getElem_toArray, List.getElem_cons_zero, List.getElem_cons_succ, List.setIfInBounds_toArray, List.set_cons_zero, List.set_cons_succ])
                      iterate 2 (refine wpT_float rfl rfl rfl (fun w' => by go_simp; rfl) ?_; try simp only [Act.put, List.getElem_toArray, List.getElem_cons_zero, List.getElem_cons_succ, List.setIfInBounds_toArray, List.set_cons_zero, List.set_cons_succ])
                      have hcx := HCX.out
                      refine wpT_last rfl rfl (by kernel_rfl) ?_
                      go_wp2_with fail
                      refine NoPanic.normal ?_
                      rw [b8_xor]
                      obtain ⟨W2, hW2⟩ : ∃ W2, W2 = wd2.setCell ⟨g7, j, none⟩ (B (xj ^^^ y)) := ⟨_, rfl⟩
                      rw [← hW2]
                      have HWd : As (Below nb W wd2) := ⟨HWa.out.trans (HBD.out.mono (Nat.le_of_lt HSa.out))⟩
                      have HO2 : As (L.Own B 5 W2 n0 (.slice (some ⟨g7, 0, none⟩) m4 c7) (cur.set j (xj ^^^ y))) := ⟨by rw [hW2]; exact (HOW.out.below (HWN.out ▸ HWd.out)).set j (xj ^^^ y)⟩
                      have HB2 : As (Below n0 W0 W2) := ⟨by rw [hW2]; exact (HBL.out.trans (HWd.out.mono (by have := hws; have := HNB.out; omega))).setCell (p := ⟨g7, j, none⟩) hws.1 _⟩
                      have HG2 : As (GSet W2 bO O) := ⟨by rw [hW2]; exact (HGS.out.under HNB.out.2 HWd.out).setCell _ _ (by show g7 ≠ bO; omega)⟩
                      have HGG2 : As (GSet W2 bG (gath er)) := ⟨by rw [hW2]; exact (HGO.out.under (by have := HNB.out; omega) HWd.out).setCell _ _ (by show g7 ≠ bG; omega)⟩
                      have hs0 : W2.cell? ⟨nb, 0, none⟩ = some (I j) := by
                        rw [hW2, World.cell?_setCell_other _ _ _ _ (by intro h; cases h; have := HNB.out.1; omega)]
                        exact (HBD.out.cell (p := ⟨nb, 0, none⟩) (by have := HSa.out; exact this)).trans HS0.out.1
                      have HSZ2 : As (nb < W2.heap.size) := ⟨by rw [hW2]; have := HSa.out; have := HBD.out.size; simp [World.setCell]; omega⟩
                      have HDN : As (∀ i : Nat, i < m4 → Solve.differ (cur.set j (xj ^^^ y)) wd i = true → i = j ∨ (i : Int) ∈ er ∨ (i : Int) ∈ O) := ⟨fun i hi hd => by
                        by_cases e : i = j
                        · exact .inl e
                        · exact .inr (HDF.out i hi (by rw [← hd, Solve.differ, Solve.differ, List.getD_eq_getElem?_getD (l := cur.set j _), List.getElem?_set_ne (fun h => e h.symm), List.getD_eq_getElem?_getD (l := cur)]))⟩
                      have HJW : As ((Lit.int .i64 (j : Int)).wf = true) := ⟨wf64 (by have := HTH.out; omega)⟩
                      have HOL : As (O.length < maxLen) := ⟨by simp only [maxLen]; omega⟩
                      have hws2 : w8.heap.size ≤ nb := by have := HSZ.out; omega
                      clear hW2 HOW HGS HDF HBL HGO HS0 HCJ HFJ HBD HWd HWa HSa
                      by_cases hmem : (j : Int) ∈ gath er
                      · have e3 : decide ((j : Int) ∈ gath er) = true := decide_eq_true hmem
                        have hjer := mem_gath.1 hmem
                        have HJE := As.mk hjer
                        clear hmem hjer
                        go_wp2_with (at_lookup; refine set_get (kt := 3) (et := 4) (q := .i64) rfl _ _ _ rfl Try.underlying3 Try.underlying4 Try.underlying119 (zeroB _) HGG2.out (j : Int) rfl rfl HJW.out ?_)
                        go_roundw
                        case rel => exact ⟨k + 1, _, O, by omega, by go_num, HO2.out, HG2.out, by omega, fun i hi hd => by
                          rcases HDN.out i hi hd with rfl | h
                          · exact .inl HJE.out
                          · exact h, HB2.out, by have := HSZ2.out; omega⟩
                        case measure => simp [intOf]; omega
                      · have e3 : decide ((j : Int) ∈ gath er) = false := decide_eq_false hmem
                        clear hmem
                        go_wp2_with (first | (at_lookup; refine set_get (kt := 3) (et := 4) (q := .i64) rfl _ _ _ rfl Try.underlying3 Try.underlying4 Try.underlying119 (zeroB _) HGG2.out (j : Int) rfl rfl HJW.out ?_) | (at_mapUpdate; refine set_add (kt := 3) (et := 4) (q := .i64) rfl _ _ _ _ rfl Try.underlying3 Try.underlying4 Try.underlying119 HG2.out (j : Int) rfl rfl rfl HOL.out HJW.out ?_; intro W3 hs3 hg3; have HS3 := As.mk hs3; have HG3 := As.mk hg3; clear hs3 hg3 hs0))
                        go_roundw
                        case rel => exact ⟨k + 1, cur.set j (xj ^^^ y), addS O j, by omega, by go_num, L.Own.of_row (HO2.out.row.kept HG3.out (.inr (fun e => by simp [Value.ownBlock] at e; omega))), HS3.out, by have := addS_len O j; omega, fun i hi hd => by
                          rcases HDN.out i hi hd with rfl | h | h
                          · exact .inr (mem_addS.2 (.inr rfl))
                          · exact .inl h
                          · exact .inr (mem_addS.2 (.inl h)), HB2.out.grown HG3.out (by have := HSZ2.out; omega) (fun k hk => by cases hk; omega), by have := HSZ2.out; have := HG3.out.size; omega⟩
                        case measure => simp [intOf]; omega
                · have hkm : k = m3 := by omega
                  subst hkm
                  have HGL : As ((gath er).length = (eset er).length ∧ (gath er).length ≤ 60) := ⟨gath_len er, by have := gath_le er; have := HKEEP.out.2.2.2.1.len; omega⟩
                  have HOL : As (O.length ≤ 60) := ⟨by omega⟩
                  have HBK : As (Below b w W) := ⟨HB0.out⟩
                  have HBb2 : As (b ≤ W.heap.size) := ⟨HBb.out ▸ HB0.out.size⟩
                  have HON : As (O.Nodup) := ⟨HGS.out.1⟩
                  clear HBL HSZ hws hlt hol hk
                  go_wp2_with (first | (at_len; refine set_len (kt := 3) (et := 4) (q := .i64) rfl _ _ rfl Try.underlying119 HGO.out rfl _ rfl ?_) | (at_len; refine set_len (kt := 3) (et := 4) (q := .i64) rfl _ _ rfl Try.underlying119 HGS.out rfl _ rfl ?_))
                  have HPB : As (withinB (m4 - K) (gath er).length O.length = true → pmendX psearch m4 K cur er = (0, wd, unl cur wd m4)) := ⟨fun h => by
                    have h2 := of_decide_eq_true h
                    have hcl := HOW.out.rd'.1
                    rw [pmendX, if_pos hcl.symm, mend_back (O := O) (by have := HTH.out; omega) HWL.out hcl.symm HWR.out HALL.out HDF.out (by rw [← HGL.out.1]; omega)]
                    rw [punlikes, ← hcl]; rfl⟩
                  have hGl := HGL.out.2
                  generalize hGG : (gath er).length = G at *
                  have HGG := As.mk hGG
                  generalize hOO : O.length = o at *
                  have HOO := As.mk hOO
                  clear hGG hOO
                  have hol := HOL.out
                  refine (within_any cd w1.heap.size m4 K Ag mg cg G o W HKEEP.out.2.2.1 (by omega) (by omega)).mono ?_
                  by_cases hwi : withinB (m4 - K) G o = true
                  · have HM := As.mk (HPB.out hwi)
                    rw [hwi]
                    clear hwi HPB
                    rintro e w9 ⟨rfl, hb9⟩
                    have HB9 := As.mk hb9
                    have HT9 : As (Three w9 b (.slice A K c) (.slice A2 q c2) (.slice A3 k c3)) := ⟨HKEEP.out.2.1.below hb9⟩
                    clear hb9
                    obtain ⟨x0, x1, x2⟩ := HT9.out
                    go_wp2_with fail
                    clear x0 x1 x2
                    refine (mend_word cd w1.heap.size m4 K Ag mg cg (some ⟨g7, 0, none⟩) A2 m4 c7 q c2 cur er w9 (HKEEP.out.2.2.1.below HB9.out) (HOW.out.rd'.2.below HB9.out) (HKEEP.out.2.2.2.1.below HB9.out) (by omega)).mono ?_
                    rw [HM.out]
                    rintro e w10 ⟨hb10, A8, m8, c8, A9, m9, c9, rfl, h8, h9, _, _⟩
                    have HB10 : As (Below W.heap.size W w10) := ⟨below_then HB9.out HB9.out.size hb10⟩
                    have hc1 := conv_str (c := c8) h8.rd'.2
                    have hc2 := conv_str (c := c4) (HKEEP.out.1.below HB10.out)
                    have HW10 : As (Rd B w10 (some g4) m4 wd) := ⟨HKEEP.out.1.below HB10.out⟩
                    have HX10 : As (Rd B w10 (some ⟨g7, 0, none⟩) m4 cur) := ⟨HOW.out.rd'.2.below HB10.out⟩
                    have HP10 : As (Rd N w10 A9 m9 (unl cur wd m4)) := ⟨h9.rd'.2⟩
                    have HM9 : As (m9 = (unl cur wd m4).length) := ⟨h9.rd'.1⟩
                    have hm9 : m9 ≤ 255 := by
                      rw [HM9.out, unl]
                      have := List.length_filter_le (Solve.differ cur wd) (List.range m4)
                      simp at this; have := HTH.out; omega
                    have HBA : As (Below b w w10) := ⟨HBK.out.trans (HB10.out.mono HBb2.out)⟩
                    clear hb10 h8 h9 HGS HGO HOW HDF HB9 HT9 HB10 HKEEP
                    go_wp2_with fail
                    clear hc1 hc2
                    have hm4 : m4 ≤ 255 := HTH.out.2.2.1
                    go_loopw [24, 181] (fun k0 i wr => ∃ j : Nat, j ≤ m4 ∧ i = .int .i64 j ∧ k0 = .int .i64 ((unl cur wd j).length : Int) ∧ Below w10.heap.size w10 wr) (fun _ i _ => m4 - (intOf i).toNat)
                    case atStart => exact ⟨0, by omega, rfl, rfl, Below.refl _ _⟩
                    case round =>
                      obtain ⟨j, hj, rfl, rfl, hbl⟩ := hrel
                      have HBL := As.mk hbl
                      clear hbl
                      by_cases hlt : j < m4
                      · have hul : (unl cur wd j).length ≤ j := by
                          have := List.length_filter_le (Solve.differ cur wd) (List.range j)
                          simpa [unl] using this
                        obtain ⟨ad, hg4, x, hx, hcx⟩ := (HW10.out.below HBL.out).at_ j hlt
                        cases hg4
                        obtain ⟨ad2, hg7, y, hy, hcy⟩ := (HX10.out.below HBL.out).at_ j hlt
                        cases hg7
                        have HDD : As (Solve.differ cur wd j = (y != x)) := ⟨by rw [Solve.differ, List.getD_eq_getElem?_getD, List.getD_eq_getElem?_getD, hx, hy]; rfl⟩
                        have HCX := As.mk hcx
                        have HCY := As.mk hcy
                        clear hx hy hcx hcy
                        go_wp2_with fail
                        refine regionT [0, 1, 2, 3, 4, 5, 6, 7, 8] mixed (by kernel_rfl) (by decide) (by kernel_rfl) ?_
                        intro wd2 hd hds
                        have HBD : As (Below w10.heap.size w10 wd2) := ⟨HBL.out.trans (hd.out _)⟩
                        have HCX2 : As (wd2.cell? (g4.add j) = some (B x)) := ⟨((hd.out _).cell (p := g4.add j) (World.block_lt_of_cell? _ _ HCX.out)).trans HCX.out⟩
                        have HCY2 : As (wd2.cell? ((⟨g7, 0, none⟩ : Addr).add j) = some (B y)) := ⟨((hd.out _).cell (p := (⟨g7, 0, none⟩ : Addr).add j) (World.block_lt_of_cell? _ _ HCY.out)).trans HCY.out⟩
                        rw [add_plain] at HCY2
                        clear hd hds
                        iterate 3 (refine wpT_float rfl rfl rfl (fun w' => by go_simp; rfl) ?_; try simp only [Act.put, List.getElem_toArray, List.getElem_cons_zero, List.getElem_cons_succ, List.setIfInBounds_toArray, List.set_cons_zero, List.set_cons_succ])
                        (refine wpT_load rfl rfl rfl rfl (fun w' hw' => by have hq : w'.cell? (g4.add j) = some (B x) := (hw'.cell (p := (g4.add j)) (World.block_lt_of_cell? _ _ HCX2.out)).trans HCX2.out; go_simp; rfl) ?_; try simp only [Act.put, List.getElem_toArray, List.getElem_cons_zero, List.getElem_cons_succ, List.setIfInBounds_toArray, List.set_cons_zero, List.set_cons_succ])
                        iterate 3 (refine wpT_float rfl rfl rfl (fun w' => by go_simp; rfl) ?_; try simp only [Act.put, List.getElem_toArray, List.getElem_cons_zero, List.getElem_cons_succ, List.setIfInBounds_toArray, List.set_cons_zero, List.set_cons_succ])
                        (refine wpT_load rfl rfl rfl rfl (fun w' hw' => by have hq : w'.cell? ⟨g7, j, none⟩ = some (B y) := (hw'.cell (p := ⟨g7, j, none⟩) (World.block_lt_of_cell? _ _ HCY2.out)).trans HCY2.out; go_simp; rfl) ?_; try simp only [Act.put, List.getElem_toArray, List.getElem_cons_zero, List.getElem_cons_succ, List.setIfInBounds_toArray, List.set_cons_zero, List.set_cons_succ])
                        iterate 1 (refine wpT_float rfl rfl rfl (fun w' => by go_simp; rfl) ?_; try simp only [Act.put, List.getElem_toArray, List.getElem_cons_zero, List.getElem_cons_succ, List.setIfInBounds_toArray, List.set_cons_zero, List.set_cons_succ])
                        refine wpT_done (NoPanic.normal ?_)
                        by_cases hxy : y = x
                        · subst hxy
                          have e1 : ((y.toNat : Int) != (y.toNat : Int)) = false := by simp
                          have HE : As (unl cur wd (j + 1) = unl cur wd j) := ⟨un_no (by rw [HDD.out]; simp)⟩
                          go_wp2_with fail
                          go_roundw
                          case rel => exact ⟨j + 1, by omega, by go_num, by rw [HE.out], HBD.out⟩
                          case measure => simp [intOf]; omega
                        · have e1 : ((x.toNat : Int) != (y.toNat : Int)) = true := by
                            have : x.toNat ≠ y.toNat := fun h => hxy (UInt8.toNat_inj.1 h).symm
                            simp; omega
                          have hdd : Solve.differ cur wd j = true := by rw [HDD.out]; simpa using hxy
                          have HE : As ((unl cur wd (j + 1)).length = (unl cur wd j).length + 1) := ⟨by unfold unl; rw [un_yes hdd, List.length_append]; rfl⟩
                          have hat := unl_at hlt hdd
                          have hlt9 : (unl cur wd j).length < m9 := by rw [HM9.out]; exact (List.getElem?_eq_some_iff.1 hat).1
                          obtain ⟨ad9, rfl, z, hz, hcz⟩ := (HP10.out.below HBD.out).at_ _ hlt9
                          rw [hat] at hz
                          cases hz
                          clear hat hdd hxy
                          generalize hu : (unl cur wd j).length = u at *
                          have HU := As.mk hu
                          clear hu
                          have e5 : decide ((m9 : Int) ≤ (u : Int)) = false := decide_eq_false (by omega)
                          have e6 : ((j : Int) != (j : Int)) = false := by simp
                          go_wp2_with fail
                          go_roundw
                          case rel => exact ⟨j + 1, by omega, by go_num, by rw [HE.out]; go_num, HBD.out⟩
                          case measure => simp [intOf]; omega
                      · have hjm : j = m4 := by omega
                        subst hjm
                        have e1 : (((unl cur wd j).length : Int) == (m9 : Int)) = true := by rw [HM9.out]; simp
                        go_wp2_with fail
                        go_ret
                        exact ⟨rfl, HBb.out ▸ HBA.out.trans (HBL.out.mono (HBb.out ▸ HBA.out.size))⟩
                  · have hwi' : withinB (m4 - K) G o = false := by simpa using hwi
                    have hwf : ¬ (G ≤ m4 - K ∧ o ≤ (m4 - K - G) / 2) := of_decide_eq_false hwi'
                    rw [hwi']
                    clear hwi hwi' HPB
                    rintro e w9 ⟨rfl, hb9⟩
                    have HG9 : As (GSet w9 bG (gath er)) := ⟨HGO.out.below hb9⟩
                    have HO9 : As (GSet w9 bO O) := ⟨HGS.out.below hb9⟩
                    have HB9 : As (Below b w w9) := ⟨HBK.out.trans (hb9.mono HBb2.out)⟩
                    have hth := HTH.out
                    clear hb9 HGO HGS
                    by_cases h4 : m4 - K < G
                    · have e4 : decide ((m4 : Int) - K < (G : Int)) = true := decide_eq_true (by omega)
                      clear hwf h4
                      go_wp2_with (first | (at_len; refine set_len (kt := 3) (et := 4) (q := .i64) rfl _ _ rfl Try.underlying119 HG9.out rfl G HGG.out ?_) | (at_len; refine set_len (kt := 3) (et := 4) (q := .i64) rfl _ _ rfl Try.underlying119 HO9.out rfl o HOO.out ?_))
                      go_ret
                      exact ⟨rfl, HBb.out ▸ HB9.out⟩
                    · have e4 : decide ((m4 : Int) - K < (G : Int)) = false := decide_eq_false (by omega)
                      have e5 : decide ((m4 : Int) - K < (G : Int) + 2 * (o : Int)) = true := decide_eq_true (by omega)
                      clear hwf h4
                      go_wp2_with (first | (at_len; refine set_len (kt := 3) (et := 4) (q := .i64) rfl _ _ rfl Try.underlying119 HG9.out rfl G HGG.out ?_) | (at_len; refine set_len (kt := 3) (et := 4) (q := .i64) rfl _ _ rfl Try.underlying119 HO9.out rfl o HOO.out ?_))
                      go_ret
                      exact ⟨rfl, HBb.out ▸ HB9.out⟩
        · have e3 : decide ((60 : Int) < (m2 : Int)) = true := decide_eq_true (by omega)
          go_wp2_with fail
          go_ret
          exact ⟨rfl, HBb.out ▸ HB1.out⟩
      · have e2 : decide ((60 : Int) < (m3 : Int)) = true := decide_eq_true (by omega)
        go_wp2_with fail
        go_ret
        exact ⟨rfl, HBb.out ▸ HB1.out⟩
    · have e1 : ((m : Int) != (K : Int)) = true := by rw [bne_iff_ne]; omega
      have e1' : (m != K) = true := by rw [bne_iff_ne]; omega
      go_wp2_with fail
      go_ret
      exact ⟨rfl, HBb.out ▸ HB1.out⟩
  · have ht' : thereB n k = false := by simpa using ht
    rw [ht']
    clear ht ht'
    rintro e w' ⟨rfl, rfl⟩
    go_wp2_with fail
    go_ret
    exact ⟨rfl, HBb.out ▸ HB1.out⟩
end Go.Proofs.Ytdcjionaedcfoaa.LawS
