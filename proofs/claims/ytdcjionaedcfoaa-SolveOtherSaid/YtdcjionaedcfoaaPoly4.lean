/- Walks: poly.Shift, DivMod. -/
import Derived.Test.YtdcjionaedcfoaaPoly3
import Derived.Test.YtdcjionaedcfoaaZ
set_option linter.unusedVariables false
set_option linter.unusedSimpArgs false
namespace Go.Proofs.Ytdcjionaedcfoaa.Poly
open Go.RowKit Go.Proofs.Ytdcjionaedcfoaa.L Go.Proofs.Ytdcjionaedcfoaa.Gf

/-! ### Shift -/
def pshift (a : List UInt8) (m : Nat) : List UInt8 := if trim a = [] then [] else trim a ++ List.replicate m 0
set_option maxRecDepth 100000 in
theorem shift_any (A : Option Addr) (n c : Nat) (xs : List UInt8) (m : Nat) (w : World) (hn : n ≤ 70368744177664) (hnc : n ≤ c) (hm : m ≤ 1000) (hl : Rd B w A n xs) :
    Calls Try.prog 164 #[.slice A n c, I m] w (RetB w (pshift xs m)) := by
  have HL := As.mk hl
  have hL := hl.len
  have T1 := trim_le xs
  clear hl
  go_enter Try.func164, Try.ntmps164
  go_wp2_with fail
  refine (trim_any _ _ _ _ _ (by omega) hnc HL.out).mono ?_
  rintro e w1 ⟨B1, m1, d1, rfl, hown1, hA1, hC1, hb1⟩
  have hm1 := hown1.rd'.1
  have HO1 := As.mk hown1; clear hown1
  have HA1 := As.mk hA1; clear hA1
  have HB1 := As.mk hb1; clear hb1
  by_cases h1 : m1 = 0
  · subst h1
    have HP : As (pshift xs m = []) := ⟨by rw [pshift, if_pos (List.eq_nil_of_length_eq_zero hm1.symm)]⟩
    clear hm1 T1 hL hn
    go_wp2_with fail
    go_ret
    rw [HP.out]
    exact ⟨none, 0, 0, rfl, Own.nil _ _ _ _, fun _ => rfl, Nat.le_refl _, HB1.out⟩
  · have b1 : ((m1 : Int) == 0) = false := by simp; omega
    have HP : As (pshift xs m = trim xs ++ List.replicate m 0) := ⟨by
      rw [pshift, if_neg]; intro h; rw [h] at hm1; exact h1 hm1⟩
    have k1 : m1 ≤ n := by omega
    clear hm1 T1 hL
    have HE : As ((trim xs).map B ++ List.replicate m (Value.int .u8 0) = (trim xs ++ List.replicate m 0).map B) := ⟨by rw [List.map_append, List.map_replicate]; rfl⟩
    have HO2 : As (w1.ownsRow w.heap.size 5 1 (.slice B1 m1 d1) m1 ((trim xs).map B)) := ⟨HO1.out.row⟩
    go_wp2_with (at_builtin; go_loud (refine appendzero_event w w.heap.size 39 3 5 (.int .u8 0) 1 _ _ rfl rfl Try.underlying39 Try.underlying3 info_u8 rfl rfl _ m1 ((trim xs).map B) m rfl rfl HO2.out HB1.out HB1.out.size (by omega) (by decide) (m1 + m) rfl _ HE.out ?_); intro A' c' w2 hown hA hC hb hg hat)
    go_ret
    rw [HP.out]
    exact ⟨A', m1 + m, c', rfl, Own.of_row hown.out, hA.out, hC.out, hb.out⟩

/-! ### DivMod -/
def dloop (b : List UInt8) : Nat → Nat → List UInt8 → List UInt8 → List UInt8 × List UInt8
  | 0, _, q, rest => (q, rest)
  | n + 1, i, q, rest => dloop b n (i + 1) (q.set i (gdiv (rest.getD i 0) (b.getD 0 0))) (mrow (gdiv (rest.getD i 0) (b.getD 0 0)) b i rest)
def pdiv (a b : List UInt8) : List UInt8 × List UInt8 :=
  if (trim a).length < (trim b).length then ([], trim a)
  else
    let r := dloop (trim b) ((trim a).length - (trim b).length + 1) 0 (List.replicate ((trim a).length - (trim b).length + 1) 0) (trim a)
    (r.1, trim r.2)
theorem trim_head {l : List UInt8} {x : UInt8} (h : (trim l)[0]? = some x) : x ≠ 0 := by
  induction l with
  | nil => simp [trim] at h
  | cons a l ih =>
    rw [trim] at h
    split at h
    · exact ih h
    · rename_i h0
      simp at h
      subst h
      exact h0
/-- What DivMod hands back. -/
def RetQR (w : World) (q r : List UInt8) (e : Ending) (w' : World) : Prop :=
  ∃ A n c A2 n2 c2, e = .returned (.tuple #[.slice A n c, .slice A2 n2 c2, .bool true]) ∧ Own B 5 w' w.heap.size (.slice A n c) q ∧ Own B 5 w' w.heap.size (.slice A2 n2 c2) r ∧ (A = none → c = 0) ∧ n ≤ c ∧ (A2 = none → c2 = 0) ∧ n2 ≤ c2 ∧ Below w.heap.size w w'
set_option maxRecDepth 100000 in
set_option maxHeartbeats 2000000 in
theorem divmod_any (p : Nat) (A A2 : Option Addr) (n c n2 c2 : Nat) (xs ys : List UInt8) (w : World) (hf : FieldAt w p) (hn : n ≤ 70368744177664) (hn2 : n2 ≤ 70368744177664) (hnc : n ≤ c) (hnc2 : n2 ≤ c2) (hy0 : trim ys ≠ []) (hl : Rd B w A n xs) (hl2 : Rd B w A2 n2 ys) :
    Calls Try.prog 163 #[.pointer (some ⟨p, 0, none⟩), .slice A n c, .slice A2 n2 c2] w (RetQR w (pdiv xs ys).1 (pdiv xs ys).2) := by
  have HL := As.mk hl; clear hl
  have HL2 := As.mk hl2; clear hl2
  have HF := As.mk hf; clear hf
  have HY0 := As.mk hy0; clear hy0
  go_enter Try.func163, Try.ntmps163
  go_wp2_with fail
  refine (trim_any _ _ _ _ _ (by omega) hnc2 HL2.out).mono ?_
  rintro e w1 ⟨B1, m1, d1, rfl, hown1, hA1, hC1, hb1⟩
  have HO1 := As.mk hown1; clear hown1
  have HA1 := As.mk hA1; clear hA1
  have HB1 := As.mk hb1; clear hb1
  have hm1 := HO1.out.rd'.1
  have hm10 : m1 ≠ 0 := fun h => HY0.out (List.eq_nil_of_length_eq_zero (by omega))
  have b1 : ((m1 : Int) == 0) = false := by simp; omega
  have T1 := trim_le ys
  have T2 := trim_le xs
  have L1 := HL.out.len
  have L2 := HL2.out.len
  have k1 : m1 ≤ n2 := by omega
  have H1 := As.mk hm1
  clear hm1
  go_wp2_with fail
  refine (trim_any _ _ _ _ _ (by omega) hnc (HL.out.below HB1.out)).mono ?_
  rintro e w2 ⟨B2, m2, d2, rfl, hown2, hA2, hC2, hb2⟩
  have HO2 := As.mk hown2; clear hown2
  have HA2 := As.mk hA2; clear hA2
  have HB2 := As.mk hb2; clear hb2
  have hm2 := HO2.out.rd'.1
  have k2 : m2 ≤ n := by omega
  have H2 := As.mk hm2
  clear hm2 T1 T2 L1 L2
  have HB12 : As (Below w.heap.size w w2) := ⟨below_then HB1.out HB1.out.size HB2.out⟩
  by_cases hlt : m2 < m1
  · have HP : As (pdiv xs ys = ([], trim xs)) := ⟨by rw [pdiv, if_pos (by rw [← H1.out, ← H2.out]; exact hlt)]⟩
    go_wp2_with fail
    go_ret3
    rw [HP.out]
    exact ⟨none, 0, 0, B2, m2, d2, rfl, Own.nil _ _ _ _, HO2.out.less HB1.out.size, (fun _ => rfl), Nat.le_refl _, HA2.out, hC2, HB12.out⟩
  · have HP : As (pdiv xs ys = ((dloop (trim ys) (m2 - m1 + 1) 0 (List.replicate (m2 - m1 + 1) 0) (trim xs)).1, trim (dloop (trim ys) (m2 - m1 + 1) 0 (List.replicate (m2 - m1 + 1) 0) (trim xs)).2)) := ⟨by
      rw [pdiv, if_neg (by rw [← H1.out, ← H2.out]; exact hlt), ← H1.out, ← H2.out]⟩
    generalize hM : m2 - m1 + 1 = M at *
    have HM : As ((m2 : Int) - m1 + 1 = (M : Int)) := ⟨by omega⟩
    have hM1 : M + m1 = m2 + 1 := by omega
    have hM2 : M ≤ m2 + 1 := by omega
    clear hM
    have HM1 := As.mk hM1
    have hM3 : M + m1 ≤ m2 + 1 := by omega
    clear hM1
    -- the rest lies at some block gr
    obtain ⟨gr, rfl, hgr1, hgr2, _, _⟩ := ownV_at HO2.out.row 0 (by omega)
    obtain ⟨ab, rfl, b0, hb0, hcb0⟩ := HO1.out.rd'.2.at_ 0 (by omega)
    have HB0 := As.mk (trim_head hb0)
    have HB0' := As.mk hb0
    have HR1 : As (Rd B w1 (some ab) m1 (trim ys)) := ⟨HO1.out.rd'.2⟩
    have HF1 : As (FieldAt w1 p) := ⟨HF.out.below HB1.out⟩
    have HGR1 := As.mk hgr1
    have HGR2 := As.mk hgr2
    clear hb0 hcb0 HY0 hgr1 hgr2 HL HL2 HF HO1 hnc hnc2
    go_wp2_with (at_make; refine make_event w1 w1.heap.size 39 5 (.int .u8 0) 1 _ _ M rfl rfl Try.underlying39 info_u8 rfl (by exact congrArg _ HM.out) (by exact congrArg _ HM.out) (by omega) (by omega) HB2.out HB2.out.size ?_; intro w3 HQ HB3 HB3' hsz)
    generalize hg : w2.heap.size = gq at *
    have HG := As.mk hg
    clear hg
    have hne : gr < gq := by have := HGR2.out; omega
    go_loopw [40] (fun i wr => ∃ (k : Nat) (q rest : List UInt8), k ≤ M ∧ i = .int .i64 k ∧ Own B 5 wr w1.heap.size (.slice (some ⟨gq, 0, none⟩) M M) q ∧ Own B 5 wr w1.heap.size (.slice (some ⟨gr, 0, none⟩) m2 d2) rest ∧ Below w1.heap.size w1 wr ∧
      dloop (trim ys) (M - k) k q rest = dloop (trim ys) M 0 (List.replicate M 0) (trim xs)) (fun i _ => M - (intOf i).toNat)
    case atStart => exact ⟨0, List.replicate M 0, trim xs, by omega, rfl, Own.of_row (by rw [List.map_replicate]; exact HQ.out), HO2.out.below (HG.out.symm ▸ HB3'.out), HB3.out, rfl⟩
    case round =>
      obtain ⟨k, q, rest, hk, rfl, hoq, hor, hbl, hres⟩ := hrel
      have HOQ := As.mk hoq; clear hoq
      have HOR := As.mk hor; clear hor
      have HBL := As.mk hbl; clear hbl
      have HRE := As.mk hres; clear hres
      clear HQ HB3 HB3' hsz HO2
      by_cases hlk : k < M
      · go_wp2_with fail
        refine regionT [0, 1, 2, 3, 4, 5, 6, 7, 8, 9, 10, 11, 12, 13, 14, 15] mixed (by kernel_rfl) (by decide) (by kernel_rfl) ?_
        intro wd hd _
        have HOQD : As (Own B 5 wd w1.heap.size (.slice (some ⟨gq, 0, none⟩) M M) q) := ⟨HOQ.out.below (hd.out _)⟩
        have HORD : As (Own B 5 wd w1.heap.size (.slice (some ⟨gr, 0, none⟩) m2 d2) rest) := ⟨HOR.out.below (hd.out _)⟩
        have HBD : As (Below w1.heap.size w1 wd) := ⟨HBL.out.trans (hd.out _)⟩
        obtain ⟨z, hz, hcz, hfz⟩ := HORD.out.at' k (by omega)
        obtain ⟨ab', he, b0', hb0, hcb⟩ := (HR1.out.below HBD.out).at_ 0 (by omega)
        obtain rfl : ab = ab' := Option.some.inj he
        obtain rfl : b0' = b0 := by have := HB0'.out; rw [hb0] at this; exact Option.some.inj this
        have HZ := As.mk hz
        have HCZ := As.mk hcz
        have HCB : As (wd.cell? ab = some (B b0')) := ⟨by simpa [Addr.add] using hcb⟩
        clear HOQ HOR HBL hz hcz hfz hb0 hcb he
        have q1 : k < m2 := by omega
        have q2 : 0 < m1 := by omega
        iterate 6 (refine wpT_float rfl rfl rfl (fun w' => by go_simp; rfl) ?_; simp only [Act.put, List.setIfInBounds_toArray, List.set_cons_zero, List.set_cons_succ])
        refine wpT_load rfl rfl rfl rfl (fun w' hw' => by have hq : w'.cell? ⟨gr, k, none⟩ = some (B z) := (hw'.cell (p := ⟨gr, k, none⟩) (World.block_lt_of_cell? _ _ HCZ.out)).trans HCZ.out; go_simp; rfl) ?_; simp only [Act.put, List.setIfInBounds_toArray, List.set_cons_zero, List.set_cons_succ]
        iterate 2 (refine wpT_float rfl rfl rfl (fun w' => by go_simp; rfl) ?_; simp only [Act.put, List.setIfInBounds_toArray, List.set_cons_zero, List.set_cons_succ])
        refine wpT_load rfl rfl rfl rfl (fun w' hw' => by have hq : w'.cell? ab = some (B b0') := (hw'.cell (p := ab) (World.block_lt_of_cell? _ _ HCB.out)).trans HCB.out; go_simp; rfl) ?_; simp only [Act.put, List.setIfInBounds_toArray, List.set_cons_zero, List.set_cons_succ]
        refine wpT_op rfl rfl rfl ?_
        go_simp
        refine (div_any p z b0' _ (HF1.out.below HBD.out) HB0.out).mono ?_
        rintro e v1 ⟨rfl, hb1⟩
        refine ⟨hb1, ?_⟩
        have HV := As.mk hb1; clear hb1
        iterate 4 (refine wpT_float rfl rfl rfl (fun w' => by go_simp; rfl) ?_; simp only [Act.put, List.setIfInBounds_toArray, List.set_cons_zero, List.set_cons_succ])
        have HOQV : As (Own B 5 v1 w1.heap.size (.slice (some ⟨gq, 0, none⟩) M M) q) := ⟨HOQD.out.below HV.out⟩
        obtain ⟨y, hy, hcy, hfy⟩ := HOQV.out.at' k hlk
        refine wpT_last rfl rfl (by kernel_rfl) ?_
        have HOQS : As (Own B 5 (v1.setCell ⟨gq, k, none⟩ (B (gdiv z b0'))) w1.heap.size (.slice (some ⟨gq, 0, none⟩) M M) (q.set k (gdiv z b0'))) := ⟨HOQV.out.set _ _⟩
        have HORS : As (Own B 5 (v1.setCell ⟨gq, k, none⟩ (B (gdiv z b0'))) w1.heap.size (.slice (some ⟨gr, 0, none⟩) m2 d2) rest) := ⟨Own.of_row (ownV_other (g := 0) (HORD.out.below HV.out).row (by intro a ha; cases ha; simp; omega))⟩
        have HBS : As (Below w1.heap.size w1 (v1.setCell ⟨gq, k, none⟩ (B (gdiv z b0')))) := ⟨(below_then HBD.out HBD.out.size HV.out).setCell (by have := HGR1.out; simp; omega) _⟩
        have HRS : As (dloop (trim ys) (M - (k + 1)) (k + 1) (q.set k (gdiv z b0')) (mrow (gdiv z b0') (trim ys) k rest) = dloop (trim ys) M 0 (List.replicate M 0) (trim xs)) := ⟨by
          rw [← HRE.out, show M - k = (M - (k + 1)) + 1 by omega, dloop, List.getD_eq_getElem?_getD, HZ.out, List.getD_eq_getElem?_getD, HB0'.out]; rfl⟩
        clear HOQD HORD HBD HCZ HCB HV HOQV HRE HZ hy
        go_wp2_with fail
        refine NoPanic.normal ?_
        generalize gdiv z b0' = qk at *
        generalize v1.setCell ⟨gq, k, none⟩ (B qk) = v2 at *
        clear hcy hfy hd
        have HQK : As ((q.set k qk)[k]? = some qk) := ⟨by
          have hl := HOQS.out.rd'.1
          rw [List.length_set] at hl
          rw [List.getElem?_set_self (by omega)]⟩
        generalize q.set k qk = q2 at *
        go_wp2_with fail
        go_loopw [60] (fun i wr => ∃ (j : Nat) (rest : List UInt8), j ≤ m1 ∧ i = .int .i64 j ∧ Own B 5 wr w1.heap.size (.slice (some ⟨gq, 0, none⟩) M M) q2 ∧ Own B 5 wr w1.heap.size (.slice (some ⟨gr, 0, none⟩) m2 d2) rest ∧ Below w1.heap.size w1 wr ∧
          dloop (trim ys) (M - (k + 1)) (k + 1) q2 (mrow qk ((trim ys).drop j) (k + j) rest) = dloop (trim ys) M 0 (List.replicate M 0) (trim xs)) (fun i _ => m1 - (intOf i).toNat)
        case atStart => exact ⟨0, rest, by omega, rfl, HOQS.out, HORS.out, HBS.out, HRS.out⟩
        case round =>
          clear HOQS HORS HBS HRS
          obtain ⟨j, rest, hj, rfl, hoq, hor, hbl, hres⟩ := hrel
          have HOQ := As.mk hoq; clear hoq
          have HOR := As.mk hor; clear hor
          have HBL := As.mk hbl; clear hbl
          have HRE := As.mk hres; clear hres
          by_cases hlj : j < m1
          · obtain ⟨ab', he, y, hy, hcy⟩ := (HR1.out.below HBL.out).at_ j hlj
            obtain rfl : ab = ab' := Option.some.inj he
            have HY := As.mk hy
            clear hy he
            go_wp2_with fail
            clear hcy
            refine regionT [0, 1, 2, 3, 4, 5, 6, 7, 8, 9, 10, 11, 12, 13, 14, 15, 16, 17, 18, 19, 20, 21, 22] mixed (by kernel_rfl) (by decide) (by kernel_rfl) ?_
            intro wd hd _
            have HOQD : As (Own B 5 wd w1.heap.size (.slice (some ⟨gq, 0, none⟩) M M) q2) := ⟨HOQ.out.below (hd.out _)⟩
            have HORD : As (Own B 5 wd w1.heap.size (.slice (some ⟨gr, 0, none⟩) m2 d2) rest) := ⟨HOR.out.below (hd.out _)⟩
            have HBD : As (Below w1.heap.size w1 wd) := ⟨HBL.out.trans (hd.out _)⟩
            have HFD : As (FieldAt wd p) := ⟨HF1.out.below HBD.out⟩
            obtain ⟨z, hz, hcz, hfz⟩ := HORD.out.at' (k + j) (by omega)
            obtain ⟨qk', hqk, hcq, hfq⟩ := HOQD.out.at' k hlk
            obtain rfl : qk' = qk := by have := HQK.out; rw [hqk] at this; exact Option.some.inj this
            have HZ := As.mk hz
            have HCZ := As.mk hcz
            have HCQ := As.mk hcq
            clear HOQ HOR HBL hz hcz hfz hqk hcq hfq
            have q1 : IntKind.i64.wrap ((k : Int) + j) = (k : Int) + j := IntWalk.i64_in _ (by omega)
            have q2' : (0 : Int) ≤ (k : Int) + j := by omega
            have q3 : (k : Int) + j < m2 := by omega
            have q4 : ((k : Int) + j).toNat = k + j := by omega
            iterate 10 (refine wpT_float rfl rfl rfl (fun w' => by go_simp; rfl) ?_; simp only [Act.put, List.setIfInBounds_toArray, List.set_cons_zero, List.set_cons_succ])
            refine wpT_load rfl rfl rfl rfl (fun w' hw' => by have hq : w'.cell? ⟨gr, k + j, none⟩ = some (B z) := (hw'.cell (p := ⟨gr, k + j, none⟩) (World.block_lt_of_cell? _ _ HCZ.out)).trans HCZ.out; go_simp; rfl) ?_; simp only [Act.put, List.setIfInBounds_toArray, List.set_cons_zero, List.set_cons_succ]
            iterate 4 (refine wpT_float rfl rfl rfl (fun w' => by go_simp; rfl) ?_; simp only [Act.put, List.setIfInBounds_toArray, List.set_cons_zero, List.set_cons_succ])
            refine wpT_load rfl rfl rfl rfl (fun w' hw' => by have hq : w'.cell? ⟨gq, k, none⟩ = some (B qk') := (hw'.cell (p := ⟨gq, k, none⟩) (World.block_lt_of_cell? _ _ HCQ.out)).trans HCQ.out; go_simp; rfl) ?_; simp only [Act.put, List.setIfInBounds_toArray, List.set_cons_zero, List.set_cons_succ]
            iterate 1 (refine wpT_float rfl rfl rfl (fun w' => by go_simp; rfl) ?_; simp only [Act.put, List.setIfInBounds_toArray, List.set_cons_zero, List.set_cons_succ])
            refine wpT_lit 5 2 #[B qk', B y] rfl rfl rfl (by go_simp) ?_
            intro g1 v1 hg1 _ hb1
            simp only [Act.put, List.setIfInBounds_toArray, List.set_cons_zero, List.set_cons_succ]
            refine wpT_op rfl rfl rfl ?_
            go_simp
            refine (mul_any p _ _ _ [qk', y] _ (HFD.out.below hb1.out) (by simp) (rd_blk B [qk', y] hg1.out (by simp))).mono ?_
            rintro e w' ⟨rfl, rfl⟩
            refine ⟨Below.refl _ _, ?_⟩
            refine wpT_lit 5 2 #[B z, B (gmul [qk', y])] rfl rfl rfl (by go_simp) ?_
            intro g2 v2' hg2 _ hb2
            simp only [Act.put, List.setIfInBounds_toArray, List.set_cons_zero, List.set_cons_succ]
            refine wpT_op rfl rfl rfl ?_
            go_simp
            refine (add_any _ _ _ _ [z, gmul [qk', y]] _ (by simp) (rd_blk B [z, gmul [qk', y]] hg2.out (by simp))).mono ?_
            rintro e w' ⟨rfl, rfl⟩
            refine ⟨Below.refl _ _, ?_⟩
            iterate 1 (refine wpT_float rfl rfl rfl (fun w' => by go_simp; rfl) ?_; simp only [Act.put, List.setIfInBounds_toArray, List.set_cons_zero, List.set_cons_succ])
            have HORV : As (Own B 5 v2' w1.heap.size (.slice (some ⟨gr, 0, none⟩) m2 d2) rest) := ⟨(HORD.out.below hb1.out).below hb2.out⟩
            have HOQV : As (Own B 5 v2' w1.heap.size (.slice (some ⟨gq, 0, none⟩) M M) q2) := ⟨(HOQD.out.below hb1.out).below hb2.out⟩
            have HBV : As (Below w1.heap.size w1 v2') := ⟨below_then (below_then HBD.out HBD.out.size hb1.out) (Nat.le_trans HBD.out.size hb1.out.size) hb2.out⟩
            obtain ⟨z', hz', hcz', hfz'⟩ := HORV.out.at' (k + j) (by omega)
            clear HORD HOQD HBD HFD HCZ HCQ hg1 hb1 hg2 hb2 hd hz'
            refine wpT_last rfl rfl (by kernel_rfl) ?_
            have HORS : As (Own B 5 (v2'.setCell ⟨gr, k + j, none⟩ (B (gadd [z, gmul [qk', y]]))) w1.heap.size (.slice (some ⟨gr, 0, none⟩) m2 d2) (rest.set (k + j) (gadd [z, gmul [qk', y]]))) := ⟨HORV.out.set _ _⟩
            have HOQS : As (Own B 5 (v2'.setCell ⟨gr, k + j, none⟩ (B (gadd [z, gmul [qk', y]]))) w1.heap.size (.slice (some ⟨gq, 0, none⟩) M M) q2) := ⟨Own.of_row (ownV_other (g := 0) HOQV.out.row (by intro a ha; cases ha; simp; omega))⟩
            have HBS : As (Below w1.heap.size w1 (v2'.setCell ⟨gr, k + j, none⟩ (B (gadd [z, gmul [qk', y]])))) := ⟨HBV.out.setCell HGR1.out _⟩
            have HRS : As (dloop (trim ys) (M - (k + 1)) (k + 1) q2 (mrow qk' ((trim ys).drop (j + 1)) (k + (j + 1)) (rest.set (k + j) (gadd [z, gmul [qk', y]]))) = dloop (trim ys) M 0 (List.replicate M 0) (trim xs)) := ⟨by
              rw [← HRE.out, drop_at HY.out, mrow, List.getD_eq_getElem?_getD, HZ.out]; rfl⟩
            clear HORV HOQV HBV HRE HZ HY
            go_wp2_with fail
            refine NoPanic.normal ?_
            go_wp2_with fail
            go_roundw
            case rel => exact ⟨j + 1, _, by omega, by go_num, HOQS.out, HORS.out, HBS.out, HRS.out⟩
            case measure => simp [intOf]; omega
          · have e : j = m1 := by omega
            have HRS : As (dloop (trim ys) (M - (k + 1)) (k + 1) q2 rest = dloop (trim ys) M 0 (List.replicate M 0) (trim xs)) := ⟨by
              rw [← HRE.out, e, drop_end (trim ys) (by rw [← H1.out]; exact Nat.le_refl _), mrow]⟩
            clear HRE
            go_wp2_with fail
            go_roundw
            case rel => exact ⟨k + 1, q2, rest, by omega, by go_num, HOQ.out, HOR.out, HBL.out, HRS.out⟩
            case measure => simp [intOf]; omega
      · have e : k = M := by omega
        have HRS : As ((q, rest) = dloop (trim ys) M 0 (List.replicate M 0) (trim xs)) := ⟨by
          rw [← HRE.out, e, Nat.sub_self, dloop]⟩
        clear HRE
        go_wp2_with (go_at_call 30; refine (trim_any _ _ _ rest _ (by omega) hC2 HOR.out.rd'.2).mono ?_; rintro e w5 ⟨B5, m5, d5, rfl, hown5, hA5, hC5, hb5⟩; have HO5 := As.mk hown5; have HA5 := As.mk hA5; have HC5 := As.mk hC5; have HB5 := As.mk hb5; clear hown5 hA5 hC5 hb5)
        go_ret3
        rw [HP.out, ← HRS.out]
        have hs : w.heap.size ≤ wr.heap.size := Nat.le_trans HB1.out.size HBL.out.size
        exact ⟨some ⟨gq, 0, none⟩, M, M, B5, m5, d5, rfl, (HOQ.out.less HB1.out.size).below HB5.out, HO5.out.less hs, (fun h => by cases h), Nat.le_refl _, HA5.out, HC5.out, below_then (below_then HB1.out HB1.out.size HBL.out) hs HB5.out⟩
end Go.Proofs.Ytdcjionaedcfoaa.Poly
