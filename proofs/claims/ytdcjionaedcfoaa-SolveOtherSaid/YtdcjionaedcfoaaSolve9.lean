/- Walks of layer 7 (solve): mend. -/
import Derived.Test.YtdcjionaedcfoaaSolve8
set_option linter.unusedVariables false
set_option linter.unusedSimpArgs false
namespace Go.Proofs.Ytdcjionaedcfoaa.Solve
open Go.RowKit Go.Proofs.Ytdcjionaedcfoaa.L Go.Proofs.Ytdcjionaedcfoaa.Gf Go.Proofs.Ytdcjionaedcfoaa.Poly Go.Proofs.Ytdcjionaedcfoaa.Rs

def mendF (n : Nat) (om der : List UInt8) : List Nat → List UInt8 → Option (List UInt8)
  | [], out => some out
  | i :: l, out => if (pby n om der i).2 = false then none else mendF n om der l (out.set i (gadd [out.getD i 0, (pby n om der i).1]))
def pmend (n pp : Nat) (er : List Nat) (s loc word : List UInt8) (most : Int) : Option (List UInt8) :=
  if ((pplaces n loc).length : Int) ≠ most then none
  else if pp < er.length + 2 * punlike er (pplaces n loc) then none
  else mendF n (pomega s loc pp) (pderived loc) (pplaces n loc) word
/-- (the word, true) in memory of its own, or (nil, false). -/
def RetM (w : World) (r : Option (List UInt8)) (e : Ending) (w' : World) : Prop :=
  Below w.heap.size w w' ∧ match r with
  | none => e = .returned (.tuple #[.slice none 0 0, .bool false])
  | some xs => ∃ A n c, e = .returned (.tuple #[.slice A n c, .bool true]) ∧ Own B 5 w' w.heap.size (.slice A n c) xs ∧ (A = none → c = 0) ∧ n ≤ c
theorem unlikeF_le (er : List Nat) : ∀ (l : List Nat) (a : Nat), unlikeF er l a ≤ a + l.length
  | [], a => by simp [unlikeF]
  | i :: l, a => by
    rw [unlikeF, List.length_cons]
    split
    · have := unlikeF_le er l a; omega
    · have := unlikeF_le er l (a + 1); omega
theorem punlike_le (er l : List Nat) : punlike er l ≤ l.length := by have := unlikeF_le er l 0; simpa [punlike] using this
theorem pplaces_lt {n : Nat} {loc : List UInt8} {i : Nat} (h : i ∈ pplaces n loc) : i < n := by
  have := (List.mem_filter.1 h).1
  simpa using this
theorem pplaces_le (n : Nat) (loc : List UInt8) : (pplaces n loc).length ≤ n := pl_len n loc n
theorem Own.apart {w : World} {base m c g i : Nat} {A : Option Addr} {xs : List UInt8} {V : Value} (h : Own B 5 w base (.slice A m c) xs) (hb : g < base) : Own B 5 (w.setCell ⟨g, i, none⟩ V) base (.slice A m c) xs :=
  Own.of_row (ownV_other (g := 0) h.row (by
    intro a ha e
    have := (World.ownsRow.lt h.row a.block (by rw [ha]; rfl)).1
    simp at e
    omega))
set_option maxRecDepth 100000 in
set_option maxHeartbeats 2000000 in
theorem mend_any (v p n pp : Nat) (A3 A4 A : Option Addr) (m3 c3 m4 c4 m c : Nat) (er : List Nat) (s loc word : List UInt8) (most : Int) (w : World) (hs : LocAt w v p n pp (.slice A3 m3 c3) (.slice A4 m4 c4) loc) (hn : n ≤ 255) (hpp : pp ≤ 255) (hlo : loc.length ≤ 1000) (hm4 : m4 ≤ 1000) (hl3 : Rd B w A3 m3 s) (hl4 : Rd N w A4 m4 er) (hl : Rd B w A m word) (hmn : m = n) :
    Calls Try.prog 157 #[.pointer (some ⟨v, 0, none⟩), .slice A m c, I most] w (RetM w (pmend n pp er s loc word most)) := by
  have HS := As.mk hs; clear hs
  have HL := As.mk hl; clear hl
  have HL3 := As.mk hl3; clear hl3
  have HL4 := As.mk hl4; clear hl4
  have HLO := As.mk hlo; clear hlo
  have hpm : pmend n pp er s loc word most = pmend n pp er s loc word most := rfl
  conv at hpm => rhs; unfold pmend
  have hple := pplaces_le n loc
  have hpun := punlike_le er (pplaces n loc)
  have hm4e : m4 = er.length := HL4.out.len.symm
  rw [← hm4e] at hpm
  have HMN := As.mk hmn
  have hmb : m ≤ 140737488351232 := by omega
  clear hm4e hmn
  have hplt : ∀ i ∈ pplaces n loc, i < n := fun i => pplaces_lt
  go_enter Try.func157, Try.ntmps157
  go_wp2_with (go_at_call 204; refine (places_any v p n pp _ _ loc w HS.out hn HLO.out).mono ?_; rintro e w1 ⟨A8, c8, rfl, hown8, hA8, hC8, hb8⟩; have HO8 := As.mk hown8; have HA8 := As.mk hA8; have HC8 := As.mk hC8; have HB8 := As.mk hb8; clear hown8 hA8 hC8 hb8)
  have HP8 : As (Rd N w1 A8 (pplaces n loc).length (pplaces n loc)) := ⟨HO8.out.rd'.2⟩
  generalize hpl : pplaces n loc = pl at *
  generalize hun : punlike er pl = un at *
  have HUN := As.mk hun
  have HPLT := As.mk hplt
  clear hpl hun hplt
  have HS1 : As (LocAt w1 v p n pp (.slice A3 m3 c3) (.slice A4 m4 c4) loc) := ⟨by
    obtain ⟨A5, m5, c5, h1, h2, h3, h4⟩ := HS.out
    exact ⟨A5, m5, c5, h1.below HB8.out, h2.below HB8.out, h3, h4⟩⟩
  by_cases h1 : (pl.length : Int) = most
  · rw [if_neg (by simpa using h1)] at hpm
    have e1 : ((pl.length : Int) != most) = false := by simpa using h1
    have HM1 := As.mk h1
    clear h1
    obtain ⟨A5, m5, c5, hs5, ho5, hA5, hC5⟩ := HS1.out
    have HS5 := As.mk hs5
    have HO5 := As.mk ho5
    have HN5 : As ((A5 = none → c5 = 0) ∧ m5 ≤ c5) := ⟨⟨hA5, hC5⟩⟩
    have hm5 : m5 ≤ 70368744177664 := by have := HO5.out.rd'.1; have := HLO.out; omega
    have HM5 := As.mk hm5
    clear hs5 ho5 hA5 hC5 hm5
    have q1 : IntKind.i64.wrap (2 * (un : Int)) = 2 * (un : Int) := IntWalk.i64_in _ (by omega)
    have q2 : IntKind.i64.wrap ((m4 : Int) + 2 * (un : Int)) = (m4 : Int) + 2 * (un : Int) := IntWalk.i64_in _ (by omega)
    by_cases h2 : pp < m4 + 2 * un
    · rw [if_pos h2] at hpm
      have HPM := As.mk hpm
      have e2 : decide ((pp : Int) < (m4 : Int) + 2 * (un : Int)) = true := decide_eq_true (by omega)
      clear hpm
      refine regionT [0, 1, 2, 3, 4, 5, 6, 7, 8, 9, 10, 11, 15, 16, 17, 18, 12, 13, 14, 19, 20] mixed (by kernel_rfl) (by decide) (by kernel_rfl) ?_
      intro wd hd hds
      have HBD : As (Below w1.heap.size w1 wd) := ⟨hd.out _⟩
      have HSD : As (SolAt wd v p n pp (.slice A3 m3 c3) (.slice A4 m4 c4) (.slice A5 m5 c5)) := ⟨HS5.out.below HBD.out⟩
      clear hd hds
      iterate 8 (refine wpT_float rfl rfl rfl (fun w' => by go_simp; rfl) ?_; try simp only [Act.put, List.getElem_toArray, List.getElem_cons_zero, List.getElem_cons_succ, List.setIfInBounds_toArray, List.set_cons_zero, List.set_cons_succ])
      (refine wpT_load rfl rfl rfl rfl (fun w' hw' => by obtain ⟨x0, x1, x2, x3, x4, x5, _, _⟩ := HSD.out.below hw'; go_simp; rfl) ?_; try simp only [Act.put, List.getElem_toArray, List.getElem_cons_zero, List.getElem_cons_succ, List.setIfInBounds_toArray, List.set_cons_zero, List.set_cons_succ])
      iterate 6 (refine wpT_float rfl rfl rfl (fun w' => by go_simp; rfl) ?_; try simp only [Act.put, List.getElem_toArray, List.getElem_cons_zero, List.getElem_cons_succ, List.setIfInBounds_toArray, List.set_cons_zero, List.set_cons_succ])
      (refine wpT_load rfl rfl rfl rfl (fun w' hw' => by obtain ⟨x0, x1, x2, x3, x4, x5, _, _⟩ := HSD.out.below hw'; go_simp; rfl) ?_; try simp only [Act.put, List.getElem_toArray, List.getElem_cons_zero, List.getElem_cons_succ, List.setIfInBounds_toArray, List.set_cons_zero, List.set_cons_succ])
      refine wpT_op rfl rfl rfl ?_
      go_simp
      refine (unlike_any v p n pp _ _ A4 A8 m4 c4 _ c8 er pl wd HSD.out ((HL4.out.below HB8.out).below HBD.out) (HP8.out.below HBD.out)).mono ?_
      rw [HUN.out]
      rintro e w' ⟨rfl, rfl⟩
      refine ⟨Below.refl _ _, ?_⟩
      iterate 4 (refine wpT_float rfl rfl rfl (fun w' => by go_simp; rfl) ?_; try simp only [Act.put, List.getElem_toArray, List.getElem_cons_zero, List.getElem_cons_succ, List.setIfInBounds_toArray, List.set_cons_zero, List.set_cons_succ])
      refine wpT_done (NoPanic.normal ?_)
      clear q1 q2
      go_wp2_with fail
      go_ret2
      exact ⟨below_then HB8.out HB8.out.size HBD.out, by rw [HPM.out]; rfl⟩
    · rw [if_neg h2] at hpm
      have HPM := As.mk hpm
      have e2 : decide ((pp : Int) < (m4 : Int) + 2 * (un : Int)) = false := decide_eq_false (by omega)
      clear hpm
      refine regionT [0, 1, 2, 3, 4, 5, 6, 7, 8, 9, 10, 11, 15, 16, 17, 18, 12, 13, 14, 19, 20] mixed (by kernel_rfl) (by decide) (by kernel_rfl) ?_
      intro wd hd hds
      have HBD : As (Below w1.heap.size w1 wd) := ⟨hd.out _⟩
      have HSD : As (SolAt wd v p n pp (.slice A3 m3 c3) (.slice A4 m4 c4) (.slice A5 m5 c5)) := ⟨HS5.out.below HBD.out⟩
      clear hd hds
      iterate 8 (refine wpT_float rfl rfl rfl (fun w' => by go_simp; rfl) ?_; try simp only [Act.put, List.getElem_toArray, List.getElem_cons_zero, List.getElem_cons_succ, List.setIfInBounds_toArray, List.set_cons_zero, List.set_cons_succ])
      (refine wpT_load rfl rfl rfl rfl (fun w' hw' => by obtain ⟨x0, x1, x2, x3, x4, x5, _, _⟩ := HSD.out.below hw'; go_simp; rfl) ?_; try simp only [Act.put, List.getElem_toArray, List.getElem_cons_zero, List.getElem_cons_succ, List.setIfInBounds_toArray, List.set_cons_zero, List.set_cons_succ])
      iterate 6 (refine wpT_float rfl rfl rfl (fun w' => by go_simp; rfl) ?_; try simp only [Act.put, List.getElem_toArray, List.getElem_cons_zero, List.getElem_cons_succ, List.setIfInBounds_toArray, List.set_cons_zero, List.set_cons_succ])
      (refine wpT_load rfl rfl rfl rfl (fun w' hw' => by obtain ⟨x0, x1, x2, x3, x4, x5, _, _⟩ := HSD.out.below hw'; go_simp; rfl) ?_; try simp only [Act.put, List.getElem_toArray, List.getElem_cons_zero, List.getElem_cons_succ, List.setIfInBounds_toArray, List.set_cons_zero, List.set_cons_succ])
      refine wpT_op rfl rfl rfl ?_
      go_simp
      refine (unlike_any v p n pp _ _ A4 A8 m4 c4 _ c8 er pl wd HSD.out ((HL4.out.below HB8.out).below HBD.out) (HP8.out.below HBD.out)).mono ?_
      rw [HUN.out]
      rintro e w' ⟨rfl, rfl⟩
      refine ⟨Below.refl _ _, ?_⟩
      iterate 4 (refine wpT_float rfl rfl rfl (fun w' => by go_simp; rfl) ?_; try simp only [Act.put, List.getElem_toArray, List.getElem_cons_zero, List.getElem_cons_succ, List.setIfInBounds_toArray, List.set_cons_zero, List.set_cons_succ])
      refine wpT_done (NoPanic.normal ?_)
      clear q1 q2
      go_wp2_with (go_at_call 83; refine (clone_any A m c word wd hmb ((HL.out.below HB8.out).below HBD.out)).mono ?_; rintro e w2 ⟨A9, m9, c9, rfl, hown9, hA9, hC9, hb9⟩; have HO9 := As.mk hown9; have HA9 := As.mk hA9; have HC9 := As.mk hC9; have HB9 := As.mk hb9; clear hown9 hA9 hC9 hb9)
      have h9 : m9 = n := by have h := HO9.out.rd'.1; have := HL.out.len; have := HMN.out; omega
      subst h9
      refine regionT [0, 2, 3, 4, 5, 1, 6, 7, 8] mixed (by kernel_rfl) (by decide) (by kernel_rfl) ?_
      intro we he hes
      have HBE : As (Below w2.heap.size w2 we) := ⟨he.out _⟩
      have HBE2 : As (Below wd.heap.size wd we) := ⟨below_then HB9.out HB9.out.size HBE.out⟩
      have HSE : As (SolAt we v p m9 pp (.slice A3 m3 c3) (.slice A4 m4 c4) (.slice A5 m5 c5)) := ⟨HSD.out.below HBE2.out⟩
      have HOE : As (Own B 5 we (v + 1) (.slice A5 m5 c5) loc) := ⟨(HO5.out.below HBD.out).below HBE2.out⟩
      clear he hes
      iterate 4 (refine wpT_float rfl rfl rfl (fun w' => by go_simp; rfl) ?_; try simp only [Act.put, List.getElem_toArray, List.getElem_cons_zero, List.getElem_cons_succ, List.setIfInBounds_toArray, List.set_cons_zero, List.set_cons_succ])
      (refine wpT_load rfl rfl rfl rfl (fun w' hw' => by obtain ⟨x0, x1, x2, x3, x4, x5, _, _⟩ := HSE.out.below hw'; go_simp; rfl) ?_; try simp only [Act.put, List.getElem_toArray, List.getElem_cons_zero, List.getElem_cons_succ, List.setIfInBounds_toArray, List.set_cons_zero, List.set_cons_succ])
      refine wpT_op rfl rfl rfl ?_
      go_simp
      refine (omega_any v p m9 pp _ A3 m3 c3 s loc we ⟨A5, m5, c5, HSE.out, HOE.out, HN5.out.1, HN5.out.2⟩ hpp HLO.out (((HL3.out.below HB8.out).below HBD.out).below HBE2.out)).mono ?_
      rintro e w4 ⟨A10, m10, c10, rfl, hown10, hA10, hC10, hb10⟩
      refine ⟨hb10, ?_⟩
      have HO10 := As.mk hown10
      have HB10 := As.mk hb10
      clear hown10 hA10 hC10 hb10
      refine wpT_op rfl rfl rfl ?_
      go_simp
      refine (derived_any A5 m5 c5 loc w4 HM5.out (HOE.out.rd'.2.below HB10.out)).mono ?_
      rintro e w5 ⟨A11, m11, c11, rfl, hown11, hA11, hC11, hb11⟩
      refine ⟨hb11, ?_⟩
      have HO11 := As.mk hown11
      have HB11 := As.mk hb11
      clear hown11 hA11 hC11 hb11
      iterate 2 (refine wpT_float rfl rfl rfl (fun w' => by go_simp; rfl) ?_; try simp only [Act.put, List.getElem_toArray, List.getElem_cons_zero, List.getElem_cons_succ, List.setIfInBounds_toArray, List.set_cons_zero, List.set_cons_succ])
      refine wpT_done (NoPanic.normal ?_)
      have hsz1 := HB9.out.size
      have hsz2 := HBE.out.size
      have hsz3 := HB10.out.size
      have hsz4 := HB11.out.size
      have HG9 : As (∀ ad, A9 = some ad → ad.block < we.heap.size) := ⟨fun ad h => Nat.lt_of_lt_of_le (World.ownsRow.lt HO9.out.row ad.block (by rw [h]; rfl)).2 hsz2⟩
      have HB5 : As (Below wd.heap.size wd w5) := ⟨below_then (below_then HBE2.out HBE2.out.size HB10.out) (Nat.le_trans HBE2.out.size hsz3) HB11.out⟩
      have HO9' : As (Own B 5 w5 wd.heap.size (.slice A9 m9 c9) word) := ⟨((HO9.out.below HBE.out).below HB10.out).below HB11.out⟩
      have HOM : As (Own B 5 w5 we.heap.size (.slice A10 m10 c10) (pomega s loc pp)) := ⟨HO10.out.below HB11.out⟩
      have HDE : As (Own B 5 w5 we.heap.size (.slice A11 m11 c11) (pderived loc)) := ⟨HO11.out.less hsz3⟩
      have hm10 : m10 ≤ 140737488351232 := by have h := HOM.out.rd'.1; rw [pomega, List.length_map, List.length_range] at h; omega
      have hm11 : m11 ≤ 140737488351232 := by have h := HDE.out.rd'.1; rw [pderived, List.length_map, List.length_range] at h; have := HLO.out; omega
      have HM10 := As.mk hm10
      have HM11 := As.mk hm11
      have HWL : As (word.length = m9) := ⟨by have := HL.out.len; have := HMN.out; omega⟩
      have HWE : As (we.heap.size ≤ w5.heap.size) := ⟨by omega⟩
      have HDW : As (wd.heap.size ≤ we.heap.size) := ⟨by omega⟩
      generalize pomega s loc pp = OM at *
      generalize pderived loc = DE at *
      have HPD : As (Rd N wd A8 pl.length pl) := ⟨HP8.out.below HBD.out⟩
      have HB0D : As (Below w.heap.size w wd) := ⟨below_then HB8.out HB8.out.size HBD.out⟩
      clear hsz1 hsz2 hsz3 hsz4 hm10 hm11 HO10 HO11 HB10 HB11 HOE HSE HBE HBE2 HO9 HB9 HS HS1 HS5 HO5 HL HL3 HL4 HP8 HO8 hmb HLO HUN HMN
      go_wp2_with fail
      go_loopw [50] (fun i wr => ∃ (k : Nat) (out : List UInt8), k ≤ pl.length ∧ i = .int .i64 k ∧ Own B 5 wr wd.heap.size (.slice A9 m9 c9) out ∧ Own B 5 wr we.heap.size (.slice A10 m10 c10) OM ∧ Own B 5 wr we.heap.size (.slice A11 m11 c11) DE ∧ Below wd.heap.size wd wr ∧ we.heap.size ≤ wr.heap.size ∧ out.length = m9 ∧ mendF m9 OM DE (pl.drop k) out = mendF m9 OM DE pl word) (fun i _ => pl.length - (intOf i).toNat)
      case atStart => exact ⟨0, word, by omega, rfl, HO9'.out, HOM.out, HDE.out, HB5.out, HWE.out, HWL.out, rfl⟩
      case round =>
        clear HO9' HOM HDE HB5 HWE HWL
        obtain ⟨k, out, hk, rfl, hown, hom, hde, hbl, hsz, hlen, hres⟩ := hrel
        have HOW := As.mk hown
        have HOM := As.mk hom
        have HDE := As.mk hde
        have HBL := As.mk hbl
        have HSZ := As.mk hsz
        have HLEN := As.mk hlen
        clear hown hom hde hbl hsz hlen
        by_cases hlt : k < pl.length
        · obtain ⟨ad, rfl, i, hi, hc⟩ := (HPD.out.below HBL.out).at_ k hlt
          have him : i < m9 := HPLT.out i (List.mem_of_getElem? hi)
          rw [drop_at hi, mendF] at hres
          obtain ⟨g, rfl, hg1, hg2, ⟨x, hx, hxc⟩, hfz⟩ := HOW.out.at_ i (by have := HLEN.out; omega)
          have hgw : g < we.heap.size := HG9.out _ rfl
          have HGW := As.mk hgw
          have HG1 := As.mk hg1
          rw [List.getD_eq_getElem?_getD, hx, Option.getD_some] at hres
          have HX := As.mk hx
          clear hx hi hxc hfz hg1 hg2 hgw
          rcases hpb : pby m9 OM DE i with ⟨ev, ok⟩
          rw [hpb] at hres
          have HPB := As.mk hpb
          clear hpb
          cases ok with
          | false =>
            have HRE := As.mk hres
            clear hres
            go_wp2_with (go_at_call 208; refine (by_any v p m9 pp _ _ _ A10 A11 m10 c10 m11 c11 i OM DE wr (HSD.out.below HBL.out) hn him HM10.out HM11.out HOM.out.rd'.2 HDE.out.rd'.2).mono ?_; rw [HPB.out]; rintro e w6 ⟨rfl, hb6⟩; have HB6 := As.mk hb6; clear hb6)
            go_ret2
            exact ⟨below_then (below_then HB0D.out HB0D.out.size HBL.out) (Nat.le_trans HB0D.out.size HBL.out.size) HB6.out, by rw [HPM.out, ← HRE.out]; rfl⟩
          | true =>
            have HRE := As.mk hres
            clear hres
            go_wp2_with (go_at_call 208; refine (by_any v p m9 pp _ _ _ A10 A11 m10 c10 m11 c11 i OM DE wr (HSD.out.below HBL.out) hn him HM10.out HM11.out HOM.out.rd'.2 HDE.out.rd'.2).mono ?_; rw [HPB.out]; rintro e w6 ⟨rfl, hb6⟩; have HB6 := As.mk hb6; clear hb6)
            refine regionT [0, 1, 2, 3, 4, 5, 6, 7, 8, 9, 10, 11, 12, 13, 14] mixed (by kernel_rfl) (by decide) (by kernel_rfl) ?_
            intro wf hf hfs
            have HBF : As (Below wr.heap.size wr wf) := ⟨below_then HB6.out HB6.out.size (hf.out _)⟩
            have HSF : As (SolAt wf v p m9 pp (.slice A3 m3 c3) (.slice A4 m4 c4) (.slice A5 m5 c5)) := ⟨(HSD.out.below HBL.out).below HBF.out⟩
            have HOF : As (Own B 5 wf wd.heap.size (.slice (some ⟨g, 0, none⟩) m9 c9) out) := ⟨HOW.out.below HBF.out⟩
            obtain ⟨zz, hzz, hcz, hfz⟩ := HOF.out.at' i him
            have hzz2 : zz = x := by have := HX.out; rw [hzz] at this; exact Option.some.inj this
            subst hzz2
            have HCX := As.mk hcz
            clear hf hfs hzz hcz hfz
            iterate 5 (refine wpT_float rfl rfl rfl (fun w' => by go_simp; rfl) ?_; try simp only [Act.put, List.getElem_toArray, List.getElem_cons_zero, List.getElem_cons_succ, List.setIfInBounds_toArray, List.set_cons_zero, List.set_cons_succ])
            (refine wpT_load rfl rfl rfl rfl (fun w' hw' => by obtain ⟨x0, x1, x2, x3, x4, x5, _, _⟩ := HSF.out.below hw'; go_simp; rfl) ?_; try simp only [Act.put, List.getElem_toArray, List.getElem_cons_zero, List.getElem_cons_succ, List.setIfInBounds_toArray, List.set_cons_zero, List.set_cons_succ])
            iterate 3 (refine wpT_float rfl rfl rfl (fun w' => by go_simp; rfl) ?_; try simp only [Act.put, List.getElem_toArray, List.getElem_cons_zero, List.getElem_cons_succ, List.setIfInBounds_toArray, List.set_cons_zero, List.set_cons_succ])
            (refine wpT_load rfl rfl rfl rfl (fun w' hw' => by have hq : w'.cell? ⟨g, i, none⟩ = some (B zz) := (hw'.cell (p := ⟨g, i, none⟩) (World.block_lt_of_cell? _ _ HCX.out)).trans HCX.out; go_simp; rfl) ?_; try simp only [Act.put, List.getElem_toArray, List.getElem_cons_zero, List.getElem_cons_succ, List.setIfInBounds_toArray, List.set_cons_zero, List.set_cons_succ])
            iterate 1 (refine wpT_float rfl rfl rfl (fun w' => by go_simp; rfl) ?_; try simp only [Act.put, List.getElem_toArray, List.getElem_cons_zero, List.getElem_cons_succ, List.setIfInBounds_toArray, List.set_cons_zero, List.set_cons_succ])
            refine wpT_lit 5 2 #[B zz, B ev] rfl rfl rfl (by go_simp) ?_
            intro g1 v1 hg1 hlg1 hb1
            try simp only [Act.put, List.getElem_toArray, List.getElem_cons_zero, List.getElem_cons_succ, List.setIfInBounds_toArray, List.set_cons_zero, List.set_cons_succ]
            refine wpT_op rfl rfl rfl ?_
            go_simp
            refine (add_any _ _ _ _ [zz, ev] _ (by simp) (rd_blk B [zz, ev] hg1.out (by simp))).mono ?_
            rintro e w' ⟨rfl, rfl⟩
            refine ⟨Below.refl _ _, ?_⟩
            iterate 1 (refine wpT_float rfl rfl rfl (fun w' => by go_simp; rfl) ?_; try simp only [Act.put, List.getElem_toArray, List.getElem_cons_zero, List.getElem_cons_succ, List.setIfInBounds_toArray, List.set_cons_zero, List.set_cons_succ])
            have HBV : As (Below wd.heap.size wd v1) := ⟨below_then (below_then HBL.out HBL.out.size HBF.out) (Nat.le_trans HBL.out.size HBF.out.size) hb1.out⟩
            have HOV : As (Own B 5 v1 wd.heap.size (.slice (some ⟨g, 0, none⟩) m9 c9) out) := ⟨HOF.out.below hb1.out⟩
            have HOMV : As (Own B 5 v1 we.heap.size (.slice A10 m10 c10) OM) := ⟨(HOM.out.below HBF.out).below hb1.out⟩
            have HDEV : As (Own B 5 v1 we.heap.size (.slice A11 m11 c11) DE) := ⟨(HDE.out.below HBF.out).below hb1.out⟩
            have HSZV : As (we.heap.size ≤ v1.heap.size) := ⟨Nat.le_trans HSZ.out (Nat.le_trans HBF.out.size hb1.out.size)⟩
            obtain ⟨z', hz', hcz', hfz'⟩ := HOV.out.at' i him
            clear hz'
            refine wpT_last rfl rfl (by kernel_rfl) ?_
            have HOS : As (Own B 5 (v1.setCell ⟨g, i, none⟩ (B (gadd [zz, ev]))) wd.heap.size (.slice (some ⟨g, 0, none⟩) m9 c9) (out.set i (gadd [zz, ev]))) := ⟨HOV.out.set _ _⟩
            have HBS : As (Below wd.heap.size wd (v1.setCell ⟨g, i, none⟩ (B (gadd [zz, ev])))) := ⟨HBV.out.setCell HG1.out _⟩
            have HOMS : As (Own B 5 (v1.setCell ⟨g, i, none⟩ (B (gadd [zz, ev]))) we.heap.size (.slice A10 m10 c10) OM) := ⟨Own.apart HOMV.out HGW.out⟩
            have HDES : As (Own B 5 (v1.setCell ⟨g, i, none⟩ (B (gadd [zz, ev]))) we.heap.size (.slice A11 m11 c11) DE) := ⟨Own.apart HDEV.out HGW.out⟩
            have HSZS : As (we.heap.size ≤ (v1.setCell ⟨g, i, none⟩ (B (gadd [zz, ev]))).heap.size) := ⟨by simpa using HSZV.out⟩
            clear HOV HBV HOMV HDEV HSZV
            go_wp2_with fail
            refine NoPanic.normal ?_
            go_wp2_with fail
            go_roundw
            case rel => exact ⟨k + 1, _, by omega, by go_num, HOS.out, HOMS.out, HDES.out, HBS.out, HSZS.out, by rw [List.length_set]; exact HLEN.out, by rw [← HRE.out]; rfl⟩
            case measure => simp [intOf]; omega
        · have e : k = pl.length := by omega
          rw [e, List.drop_length, mendF] at hres
          have HRE := As.mk hres
          clear hres
          go_wp2_with fail
          go_ret2
          refine ⟨below_then HB0D.out HB0D.out.size HBL.out, ?_⟩
          rw [HPM.out, ← HRE.out]
          exact ⟨A9, m9, c9, rfl, HOW.out.less HB0D.out.size, HA9.out, HC9.out⟩
  · rw [if_pos h1] at hpm
    have HPM := As.mk hpm
    have e1 : ((pl.length : Int) != most) = true := by simpa using h1
    clear hpm h1
    refine regionT [0, 1, 2, 3, 4, 5, 6, 7, 8, 9, 10, 11, 15, 16, 17, 18, 12, 13, 14, 19, 20] mixed (by kernel_rfl) (by decide) (by kernel_rfl) ?_
    intro wd hd hds
    have HBD : As (Below w1.heap.size w1 wd) := ⟨hd.out _⟩
    clear hd hds
    iterate 5 (refine wpT_float rfl rfl rfl (fun w' => by go_simp; rfl) ?_; try simp only [Act.put, List.getElem_toArray, List.getElem_cons_zero, List.getElem_cons_succ, List.setIfInBounds_toArray, List.set_cons_zero, List.set_cons_succ])
    (refine wpT_skip rfl rfl rfl ?_; try simp only [Act.put, List.getElem_toArray, List.getElem_cons_zero, List.getElem_cons_succ, List.setIfInBounds_toArray, List.set_cons_zero, List.set_cons_succ])
    (refine wpT_skip rfl rfl rfl ?_; try simp only [Act.put, List.getElem_toArray, List.getElem_cons_zero, List.getElem_cons_succ, List.setIfInBounds_toArray, List.set_cons_zero, List.set_cons_succ])
    (refine wpT_skip rfl rfl rfl ?_; try simp only [Act.put, List.getElem_toArray, List.getElem_cons_zero, List.getElem_cons_succ, List.setIfInBounds_toArray, List.set_cons_zero, List.set_cons_succ])
    (refine wpT_skip rfl rfl rfl ?_; try simp only [Act.put, List.getElem_toArray, List.getElem_cons_zero, List.getElem_cons_succ, List.setIfInBounds_toArray, List.set_cons_zero, List.set_cons_succ])
    (refine wpT_skip rfl rfl rfl ?_; try simp only [Act.put, List.getElem_toArray, List.getElem_cons_zero, List.getElem_cons_succ, List.setIfInBounds_toArray, List.set_cons_zero, List.set_cons_succ])
    (refine wpT_skip rfl rfl rfl ?_; try simp only [Act.put, List.getElem_toArray, List.getElem_cons_zero, List.getElem_cons_succ, List.setIfInBounds_toArray, List.set_cons_zero, List.set_cons_succ])
    (refine wpT_skip rfl rfl rfl ?_; try simp only [Act.put, List.getElem_toArray, List.getElem_cons_zero, List.getElem_cons_succ, List.setIfInBounds_toArray, List.set_cons_zero, List.set_cons_succ])
    (refine wpT_skip rfl rfl rfl ?_; try simp only [Act.put, List.getElem_toArray, List.getElem_cons_zero, List.getElem_cons_succ, List.setIfInBounds_toArray, List.set_cons_zero, List.set_cons_succ])
    (refine wpT_skip rfl rfl rfl ?_; try simp only [Act.put, List.getElem_toArray, List.getElem_cons_zero, List.getElem_cons_succ, List.setIfInBounds_toArray, List.set_cons_zero, List.set_cons_succ])
    (refine wpT_skip rfl rfl rfl ?_; try simp only [Act.put, List.getElem_toArray, List.getElem_cons_zero, List.getElem_cons_succ, List.setIfInBounds_toArray, List.set_cons_zero, List.set_cons_succ])
    (refine wpT_skip rfl rfl rfl ?_; try simp only [Act.put, List.getElem_toArray, List.getElem_cons_zero, List.getElem_cons_succ, List.setIfInBounds_toArray, List.set_cons_zero, List.set_cons_succ])
    (refine wpT_opskip rfl rfl rfl ?_; try simp only [Act.put, List.getElem_toArray, List.getElem_cons_zero, List.getElem_cons_succ, List.setIfInBounds_toArray, List.set_cons_zero, List.set_cons_succ])
    (refine wpT_skip rfl rfl rfl ?_; try simp only [Act.put, List.getElem_toArray, List.getElem_cons_zero, List.getElem_cons_succ, List.setIfInBounds_toArray, List.set_cons_zero, List.set_cons_succ])
    (refine wpT_skip rfl rfl rfl ?_; try simp only [Act.put, List.getElem_toArray, List.getElem_cons_zero, List.getElem_cons_succ, List.setIfInBounds_toArray, List.set_cons_zero, List.set_cons_succ])
    (refine wpT_skip rfl rfl rfl ?_; try simp only [Act.put, List.getElem_toArray, List.getElem_cons_zero, List.getElem_cons_succ, List.setIfInBounds_toArray, List.set_cons_zero, List.set_cons_succ])
    iterate 1 (refine wpT_float rfl rfl rfl (fun w' => by go_simp; rfl) ?_; try simp only [Act.put, List.getElem_toArray, List.getElem_cons_zero, List.getElem_cons_succ, List.setIfInBounds_toArray, List.set_cons_zero, List.set_cons_succ])
    refine wpT_done (NoPanic.normal ?_)
    go_wp2_with fail
    go_ret2
    exact ⟨below_then HB8.out HB8.out.size HBD.out, by rw [HPM.out]; rfl⟩
end Go.Proofs.Ytdcjionaedcfoaa.Solve
