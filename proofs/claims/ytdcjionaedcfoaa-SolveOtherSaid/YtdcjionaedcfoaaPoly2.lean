/- Walks: poly.two, Mul, Roots, Degree, Eval. -/
import Derived.Test.YtdcjionaedcfoaaPoly1
import Derived.Test.YtdcjionaedcfoaaG
set_option linter.unusedVariables false
set_option linter.unusedSimpArgs false
namespace Go.Proofs.Ytdcjionaedcfoaa.Poly
open Go.RowKit Go.Proofs.Ytdcjionaedcfoaa.L Go.Proofs.Ytdcjionaedcfoaa.Gf
theorem mixed : Try.prog.follows .mixedOrders = true := by kernel_rfl

/-! ### two -/
def mrow (x : UInt8) : List UInt8 → Nat → List UInt8 → List UInt8
  | [], _, out => out
  | y :: ys, j, out => mrow x ys (j + 1) (out.set j (gadd [out.getD j 0, gmul [x, y]]))
def mall : List UInt8 → List UInt8 → Nat → List UInt8 → List UInt8
  | [], _, _, out => out
  | x :: xs, ys, i, out => mall xs ys (i + 1) (mrow x ys i out)
def ptwo (a b : List UInt8) : List UInt8 :=
  if trim a = [] ∨ trim b = [] then [] else mall (trim a) (trim b) 0 (List.replicate ((trim a).length + (trim b).length - 1) 0)

theorem drop_at {α : Type} {l : List α} {k : Nat} {x : α} (h : l[k]? = some x) : l.drop k = x :: l.drop (k + 1) := by
  obtain ⟨hk, rfl⟩ := List.getElem?_eq_some_iff.1 h
  exact List.drop_eq_getElem_cons hk
theorem drop_end {α : Type} (l : List α) {k : Nat} (h : l.length ≤ k) : l.drop k = [] := List.drop_eq_nil_of_le h
theorem trim_le (l : List UInt8) : (trim l).length ≤ l.length := by
  induction l with
  | nil => simp [trim]
  | cons a l ih => rw [trim]; split <;> simp <;> omega
set_option maxRecDepth 100000 in
set_option maxHeartbeats 1000000 in
theorem two_any (p : Nat) (A A2 : Option Addr) (n c n2 c2 : Nat) (xs ys : List UInt8) (w : World) (hf : FieldAt w p) (hn : n ≤ 70368744177664) (hn2 : n2 ≤ 70368744177664) (hnc : n ≤ c) (hnc2 : n2 ≤ c2) (hl : Rd B w A n xs) (hl2 : Rd B w A2 n2 ys) :
    Calls Try.prog 86 #[.pointer (some ⟨p, 0, none⟩), .slice A n c, .slice A2 n2 c2] w (RetB w (ptwo xs ys)) := by
  have HL := As.mk hl; clear hl
  have HL2 := As.mk hl2; clear hl2
  have HF := As.mk hf; clear hf
  go_enter Try.func86, Try.ntmps86
  go_wp2_with fail
  refine (trim_any _ _ _ _ _ (by omega) hnc HL.out).mono ?_
  rintro e w1 ⟨B1, m1, d1, rfl, hown1, hA1, hC1, hb1⟩
  have HO1 := As.mk hown1; clear hown1
  have HA1 := As.mk hA1; clear hA1
  have HB1 := As.mk hb1; clear hb1
  go_wp2_with fail
  refine (trim_any _ _ _ _ _ (by omega) hnc2 (HL2.out.below HB1.out)).mono ?_
  rintro e w2 ⟨B2, m2, d2, rfl, hown2, hA2, hC2, hb2⟩
  have HO2 := As.mk hown2; clear hown2
  have HA2 := As.mk hA2; clear hA2
  have HB2 := As.mk hb2; clear hb2
  have T1 : (trim xs).length ≤ xs.length := trim_le xs
  have T2 : (trim ys).length ≤ ys.length := trim_le ys
  have L1 := HL.out.len
  have L2 := HL2.out.len
  have hm1 := HO1.out.rd'.1
  have hm2 := HO2.out.rd'.1
  by_cases h1 : m1 = 0
  · subst h1
    have HP : As (ptwo xs ys = []) := ⟨by rw [ptwo, if_pos (.inl (List.eq_nil_of_length_eq_zero hm1.symm))]⟩
    have HB12 : As (Below w.heap.size w w2) := ⟨below_then HB1.out HB1.out.size HB2.out⟩
    clear hm1 hm2 T1 T2 L1 L2 hn hn2
    go_wp2_with fail
    go_ret
    rw [HP.out]
    exact ⟨none, 0, 0, rfl, Own.nil _ _ _ _, fun _ => rfl, Nat.le_refl _, HB12.out⟩
  · by_cases h2 : m2 = 0
    · subst h2
      have b1 : ((m1 : Int) == 0) = false := by simp; omega
      have HP : As (ptwo xs ys = []) := ⟨by rw [ptwo, if_pos (.inr (List.eq_nil_of_length_eq_zero hm2.symm))]⟩
      have HB12 : As (Below w.heap.size w w2) := ⟨below_then HB1.out HB1.out.size HB2.out⟩
      clear hm1 hm2 T1 T2 L1 L2 hn hn2
      go_wp2_with fail
      go_ret
      rw [HP.out]
      exact ⟨none, 0, 0, rfl, Own.nil _ _ _ _, fun _ => rfl, Nat.le_refl _, HB12.out⟩
    · have b1 : ((m1 : Int) == 0) = false := by simp; omega
      have b2 : ((m2 : Int) == 0) = false := by simp; omega
      have H1 := As.mk hm1
      have H2 := As.mk hm2
      have k1 : m1 ≤ n := by omega
      have k2 : m2 ≤ n2 := by omega
      have hM : ((m1 : Int) + m2 - 1) = ((m1 + m2 - 1 : Nat) : Int) := by omega
      have HM := As.mk hM
      have HR1 := As.mk (HO1.out.rd'.2.below HB2.out)
      have HR2 := As.mk HO2.out.rd'.2
      have HF2 := As.mk ((HF.out.below HB1.out).below HB2.out)
      have HB12 : As (Below w.heap.size w w2) := ⟨below_then HB1.out HB1.out.size HB2.out⟩
      have hne : ¬ (trim xs = [] ∨ trim ys = []) := by
        intro h
        rcases h with h | h
        · rw [h] at hm1; exact h1 hm1
        · rw [h] at hm2; exact h2 hm2
      have HP : As (ptwo xs ys = mall (trim xs) (trim ys) 0 (List.replicate ((trim xs).length + (trim ys).length - 1) 0)) := ⟨by rw [ptwo, if_neg hne]⟩
      have HP2 : As (ptwo xs ys = mall (trim xs) (trim ys) 0 (List.replicate (m1 + m2 - 1) 0)) := ⟨by rw [HP.out, ← H1.out, ← H2.out]⟩
      clear hne hm1 hm2 hM T1 T2 L1 L2 HL HL2 HF HO1 HO2 HP hnc hnc2
      generalize hM : m1 + m2 - 1 = M at *
      have hMb : M ≤ m1 + m2 := by omega
      have hMb2 : m1 + m2 ≤ M + 1 := by omega
      clear hM
      go_wp2_with (at_make; refine make_event w2 w2.heap.size 39 5 (.int .u8 0) 1 _ _ M rfl rfl Try.underlying39 info_u8 rfl (by exact congrArg _ HM.out) (by exact congrArg _ HM.out) (by omega) (by omega) (Below.refl _ _) (Nat.le_refl _) ?_; intro w3 HO HB3 _ hsz)
      generalize hg : w2.heap.size = g at *
      have HG := As.mk hg
      clear hg
      go_loopw [33] (fun i wr => ∃ (k : Nat) (out : List UInt8), k ≤ m1 ∧ i = .int .i64 k ∧ Own B 5 wr g (.slice (some ⟨g, 0, none⟩) M M) out ∧ Below g w2 wr ∧
        mall ((trim xs).drop k) (trim ys) k out = mall (trim xs) (trim ys) 0 (List.replicate M 0)) (fun i _ => m1 - (intOf i).toNat)
      case atStart => exact ⟨0, List.replicate M 0, by omega, rfl, by unfold Own; rw [List.map_replicate, List.length_replicate]; exact HO.out, HB3.out, rfl⟩
      case round =>
        obtain ⟨k, out, hk, rfl, hown, hbl, hres⟩ := hrel
        have HOW := As.mk hown; clear hown
        have HBL := As.mk hbl; clear hbl
        have HRE := As.mk hres; clear hres
        by_cases hlt : k < m1
        · obtain ⟨ad, rfl, x, hx, hc⟩ := (HR1.out.below (HG.out ▸ HBL.out)).at_ k hlt
          have HX := As.mk hx; clear hx
          go_wp2_with fail
          go_loopw [40] (fun i wr => ∃ (j : Nat) (out : List UInt8), j ≤ m2 ∧ i = .int .i64 j ∧ Own B 5 wr g (.slice (some ⟨g, 0, none⟩) M M) out ∧ Below g w2 wr ∧
            mall ((trim xs).drop (k + 1)) (trim ys) (k + 1) (mrow x ((trim ys).drop j) (k + j) out) = mall (trim xs) (trim ys) 0 (List.replicate M 0)) (fun i _ => m2 - (intOf i).toNat)
          case atStart =>
            refine ⟨0, out, by omega, rfl, HOW.out, HBL.out, ?_⟩
            rw [← HRE.out, drop_at HX.out]
            rfl
          case round =>
            clear HOW HBL HRE hc
            obtain ⟨j, out, hj, rfl, hown, hbl, hres⟩ := hrel
            have HOW := As.mk hown; clear hown
            have HBL := As.mk hbl; clear hbl
            have HRE := As.mk hres; clear hres
            by_cases hlt2 : j < m2
            · obtain ⟨ad2, rfl, y, hy, hc⟩ := (HR2.out.below (HG.out ▸ HBL.out)).at_ j hlt2
              have HY := As.mk hy; clear hy
              go_wp2_with fail
              have q1 : IntKind.i64.wrap ((k : Int) + j) = (k : Int) + j := IntWalk.i64_in _ (by omega)
              have q2 : (0 : Int) ≤ (k : Int) + j := by omega
              have q3 : (k : Int) + j < M := by omega
              have q4 : ((k : Int) + j).toNat = k + j := by omega
              refine regionT [0, 1, 2, 3, 4, 5, 6, 7, 8, 9, 10, 11, 12, 13, 14, 15, 16, 17, 18, 19] mixed (by kernel_rfl) (by decide) (by kernel_rfl) ?_
              intro wd hd _
              have HOD : As (Own B 5 wd g (.slice (some ⟨g, 0, none⟩) M M) out) := ⟨HOW.out.below (hd.out _)⟩
              have HBD : As (Below g w2 wd) := ⟨HBL.out.trans (hd.out _)⟩
              have HFD : As (FieldAt wd p) := ⟨HF2.out.below (HG.out ▸ HBD.out)⟩
              obtain ⟨z, hz, hcz, hfz⟩ := HOD.out.at' (k + j) (by omega)
              have HZ := As.mk hz
              have HC := As.mk hcz
              clear HOW HBL hz hcz hc
              iterate 10 (refine wpT_float rfl rfl rfl (fun w' => by go_simp; rfl) ?_; simp only [Act.put, List.setIfInBounds_toArray, List.set_cons_zero, List.set_cons_succ])
              refine wpT_load rfl rfl rfl rfl (fun w' hw' => by have hq : w'.cell? ⟨g, k + j, none⟩ = some (B z) := (hw'.cell (p := ⟨g, k + j, none⟩) (World.block_lt_of_cell? wd _ HC.out)).trans HC.out; go_simp; rfl) ?_; simp only [Act.put, List.setIfInBounds_toArray, List.set_cons_zero, List.set_cons_succ]
              iterate 3 (refine wpT_float rfl rfl rfl (fun w' => by go_simp; rfl) ?_; simp only [Act.put, List.setIfInBounds_toArray, List.set_cons_zero, List.set_cons_succ])
              refine wpT_lit 5 2 #[B x, B y] rfl rfl rfl (by go_simp) ?_
              intro g1 v1 hg1 _ hb1
              simp only [Act.put, List.setIfInBounds_toArray, List.set_cons_zero, List.set_cons_succ]
              refine wpT_op rfl rfl rfl ?_
              go_simp
              refine (mul_any p _ _ _ [x, y] _ (HFD.out.below hb1.out) (by simp) (rd_blk B [x, y] hg1.out (by simp))).mono ?_
              rintro e w' ⟨rfl, rfl⟩
              refine ⟨Below.refl _ _, ?_⟩
              refine wpT_lit 5 2 #[B z, B (gmul [x, y])] rfl rfl rfl (by go_simp) ?_
              intro g2 v2 hg2 _ hb2
              simp only [Act.put, List.setIfInBounds_toArray, List.set_cons_zero, List.set_cons_succ]
              refine wpT_op rfl rfl rfl ?_
              go_simp
              refine (add_any _ _ _ _ [z, gmul [x, y]] _ (by simp) (rd_blk B [z, gmul [x, y]] hg2.out (by simp))).mono ?_
              rintro e w' ⟨rfl, rfl⟩
              refine ⟨Below.refl _ _, ?_⟩
              iterate 1 (refine wpT_float rfl rfl rfl (fun w' => by go_simp; rfl) ?_; simp only [Act.put, List.setIfInBounds_toArray, List.set_cons_zero, List.set_cons_succ])
              have HOV : As (Own B 5 v2 g (.slice (some ⟨g, 0, none⟩) M M) out) := ⟨(HOD.out.below hb1.out).below hb2.out⟩
              have HBV : As (Below g w2 v2) := ⟨(HBD.out.trans (hb1.out.mono (HG.out ▸ HBD.out.size))).trans (hb2.out.mono (Nat.le_trans (HG.out ▸ HBD.out.size) hb1.out.size))⟩
              obtain ⟨z', hz', hcz', hfz'⟩ := HOV.out.at' (k + j) (by omega)
              have hzz : z' = z := by have := HZ.out; rw [hz'] at this; exact Option.some.inj this
              subst hzz
              clear HOD HBD HFD HC hg1 hb1 hg2 hb2 hd hfz
              refine wpT_last rfl rfl (by kernel_rfl) ?_
              have HOS : As (Own B 5 (v2.setCell ⟨g, k + j, none⟩ (B (gadd [z', gmul [x, y]]))) g (.slice (some ⟨g, 0, none⟩) M M) (out.set (k + j) (gadd [z', gmul [x, y]]))) := ⟨HOV.out.set _ _⟩
              have HBS : As (Below g w2 (v2.setCell ⟨g, k + j, none⟩ (B (gadd [z', gmul [x, y]])))) := ⟨HBV.out.setCell (Nat.le_refl _) _⟩
              have HRS : As (mall ((trim xs).drop (k + 1)) (trim ys) (k + 1) (mrow x ((trim ys).drop (j + 1)) (k + (j + 1)) (out.set (k + j) (gadd [z', gmul [x, y]]))) = mall (trim xs) (trim ys) 0 (List.replicate M 0)) := ⟨by
                rw [← HRE.out, drop_at HY.out, mrow, List.getD_eq_getElem?_getD, hz']; rfl⟩
              clear HOV HBV HRE hz'
              go_wp2_with fail
              refine NoPanic.normal ?_
              go_wp2_with fail
              go_roundw
              case rel => exact ⟨j + 1, _, by omega, by go_num, HOS.out, HBS.out, HRS.out⟩
              case measure => simp [intOf]; omega
            · have e : j = m2 := by omega
              have HRS : As (mall ((trim xs).drop (k + 1)) (trim ys) (k + 1) out = mall (trim xs) (trim ys) 0 (List.replicate M 0)) := ⟨by
                rw [← HRE.out, e, drop_end (trim ys) (by rw [← H2.out]; exact Nat.le_refl _), mrow]⟩
              clear HRE
              go_wp2_with fail
              go_roundw
              case rel => exact ⟨k + 1, out, by omega, by go_num, HOW.out, HBL.out, HRS.out⟩
              case measure => simp [intOf]; omega
        · have e : k = m1 := by omega
          have HRS : As (out = mall (trim xs) (trim ys) 0 (List.replicate M 0)) := ⟨by
            rw [← HRE.out, e, drop_end (trim xs) (by rw [← H1.out]; exact Nat.le_refl _), mall]⟩
          clear HRE
          go_wp2_with fail
          go_ret
          refine ⟨some ⟨g, 0, none⟩, M, M, rfl, ?_, (fun h => by cases h), Nat.le_refl _, below_then HB12.out HB12.out.size (HG.out.symm ▸ HBL.out)⟩
          rw [HP2.out, ← HRS.out]
          exact HOW.out.less (HG.out ▸ HB12.out.size)
end Go.Proofs.Ytdcjionaedcfoaa.Poly
