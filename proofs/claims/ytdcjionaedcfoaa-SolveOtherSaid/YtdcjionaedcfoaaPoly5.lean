/- Walks of layer 5 (poly): Add, Degree. -/
import Derived.Test.YtdcjionaedcfoaaPoly4
import Derived.Test.YtdcjionaedcfoaaAdd
set_option linter.unusedVariables false
set_option linter.unusedSimpArgs false
namespace Go.Proofs.Ytdcjionaedcfoaa.Poly
open Go.RowKit Go.Proofs.Ytdcjionaedcfoaa.L Go.Proofs.Ytdcjionaedcfoaa.Gf Go.Proofs.Ytdcjionaedcfoaa.Solve

theorem add_nil (v : Value) (w : World) : Calls Try.prog 88 #[.pointer none, v] w fun e w' => e = .returned (.slice none 0 0) ∧ w = w' := by
  go_enter Try.func88, Try.ntmps88
  go_wp2_with fail
  go_ret
  exact ⟨rfl, rfl⟩
def maxTo (ls : List (List UInt8)) (k : Nat) : Nat := maxLenOf (ls.take k)
theorem maxTo_succ {ls : List (List UInt8)} {k : Nat} {l : List UInt8} (h : ls[k]? = some l) : maxTo ls (k + 1) = max (maxTo ls k) l.length := by
  rw [maxTo, maxTo, maxLenOf, maxLenOf, List.take_add_one, h]; simp
set_option maxRecDepth 100000 in
set_option maxHeartbeats 2000000 in
theorem adds_any (p : Nat) (A : Option Addr) (n c : Nat) (ls : List (List UInt8)) (w : World) (hf : FieldAt w p) (hn : n ≤ 1000000) (hm : ∀ l ∈ ls, l.length ≤ 1000000) (hl : RdL w A n ls) :
    Calls Try.prog 88 #[.pointer (some ⟨p, 0, none⟩), .slice A n c] w (RetB w (padds ls)) := by
  have HL := As.mk hl
  have HM := As.mk hm
  have HF := As.mk hf
  have HML : As (maxLenOf ls ≤ 1000000) := ⟨foldl_max_le ls 1000000 hm 0 (by omega)⟩
  clear hl hf hm
  go_enter Try.func88, Try.ntmps88
  go_wp2_with fail
  go_loop [5, 18] (fun s i => ∃ k : Nat, k ≤ n ∧ i = .int .i64 k ∧ s = .int .i64 (maxTo ls k : Int)) (fun _ i => n - (intOf i).toNat)
  case atStart => exact ⟨0, by omega, rfl, rfl⟩
  case round =>
    obtain ⟨k, hk, rfl, rfl⟩ := hrel
    by_cases hlt : k < n
    · obtain ⟨ad, rfl, l, A', m, c', hx, hml, hc, _, _⟩ := HL.out.at_ k hlt
      have hmx := maxTo_succ hx
      have hlm := HM.out l (List.mem_of_getElem? hx)
      have HMX : As ((if maxTo ls k < m then (m : Int) else (maxTo ls k : Int)) = (maxTo ls (k + 1) : Int)) := ⟨by rw [hmx, hml]; split <;> omega⟩
      generalize maxTo ls k = u at *
      clear hx hmx hml
      go_wp2_with fail
      go_round
      case rel => exact ⟨k + 1, by omega, by go_num, by rw [← HMX.out]⟩
      case measure => simp [intOf]; omega
    · have e : k = n := by omega
      subst e
      have HMM : As (maxTo ls k = maxLenOf ls) := ⟨by rw [maxTo, List.take_of_length_le (by rw [HL.out.len]; exact Nat.le_refl _)]⟩
      have hM := HML.out
      have HPD : As (padds ls = trim (addAll (maxLenOf ls) ls (List.replicate (maxLenOf ls) 0))) := ⟨rfl⟩
      have HLE : As (∀ l ∈ ls, l.length ≤ maxLenOf ls) := ⟨(foldl_max ls 0).2⟩
      rw [HMM.out]
      clear HMM HML
      generalize maxLenOf ls = M at *
      go_wp2_with (at_make; refine make_event w w.heap.size 39 5 (.int .u8 0) 1 _ _ M rfl rfl Try.underlying39 info_u8 rfl rfl rfl (by omega) (by omega) (Below.refl _ _) (Nat.le_refl _) ?_; intro w3 HO HB3 _ hsz)
      generalize hg : w.heap.size = g at *
      have HG := As.mk hg
      clear hg
      go_loopw [31] (fun i wr => ∃ (q : Nat) (out : List UInt8), q ≤ k ∧ i = .int .i64 q ∧ Own B 5 wr g (.slice (some ⟨g, 0, none⟩) M M) out ∧ Below g w wr ∧ addAll M (ls.drop q) out = addAll M ls (List.replicate M 0)) (fun i _ => k - (intOf i).toNat)
      case atStart => exact ⟨0, List.replicate M 0, by omega, rfl, by unfold Own; rw [List.map_replicate, List.length_replicate]; exact HO.out, HB3.out, rfl⟩
      case round =>
        obtain ⟨q, out, hq, rfl, hown, hbl, hres⟩ := hrel
        have HOW := As.mk hown; clear hown
        have HBL := As.mk hbl; clear hbl
        have HRE := As.mk hres; clear hres
        by_cases hlt2 : q < k
        · obtain ⟨ad, rfl, l, A', m, c', hx, hml, hc, hmc, hrd⟩ := HL.out.at_ q hlt2
          have HX := As.mk hx
          have HRD := As.mk hrd
          have HCW := As.mk hc
          replace hc := (HBL.out.cell (p := ad.add q) (HG.out ▸ World.block_lt_of_cell? _ _ HCW.out)).trans HCW.out
          have HML := As.mk hml
          have hmM : m ≤ M := by rw [hml]; exact HLE.out l (List.mem_of_getElem? hx)
          clear hx hrd hml hmc hlt
          obtain ⟨wo, rfl⟩ : ∃ wo : World, wo = wr := ⟨_, rfl⟩
          go_wp2_with fail
          have HBO : As (Below g w wo) := HBL
          go_loopw [37] (fun i wr => ∃ (j : Nat) (out : List UInt8), j ≤ m ∧ i = .int .i64 j ∧ Own B 5 wr g (.slice (some ⟨g, 0, none⟩) M M) out ∧ Below g wo wr ∧ addAll M (ls.drop (q + 1)) (arow (l.drop j) (M - m + j) out) = addAll M ls (List.replicate M 0)) (fun i _ => m - (intOf i).toNat)
          case atStart =>
            refine ⟨0, out, by omega, rfl, HOW.out, Below.refl _ _, ?_⟩
            rw [← HRE.out, drop_at HX.out, addAll, List.drop_zero, HML.out]; rfl
          case round =>
            clear HOW HRE hc
            obtain ⟨j, out, hj, rfl, hown, hbl, hres⟩ := hrel
            have HOW := As.mk hown; clear hown
            have HBI := As.mk hbl; clear hbl
            have HRE := As.mk hres; clear hres
            by_cases hlt3 : j < m
            · obtain ⟨ad2, hA2, y, hy, hc2⟩ := (HRD.out.below (HG.out ▸ HBO.out.trans HBI.out)).at_ j hlt3
              subst hA2
              have HY := As.mk hy
              have q1 : (M : Int) - m + j = ((M - m + j : Nat) : Int) := by omega
              have q2 : (0 : Int) ≤ (M : Int) - m + j := by omega
              have q3 : (M : Int) - m + j < M := by omega
              have q4 : ((M : Int) - m + j).toNat = M - m + j := by omega
              obtain ⟨z, hz, hcz, hfz⟩ := HOW.out.at' (M - m + j) (by omega)
              have HZ := As.mk hz
              have HFD : As (FieldAt wr p) := ⟨HF.out.below (HG.out ▸ HBO.out.trans HBI.out)⟩
              have HRS : As (addAll M (ls.drop (q + 1)) (arow (l.drop (j + 1)) (M - m + (j + 1)) (out.set (M - m + j) (gadd [z, y]))) = addAll M ls (List.replicate M 0)) := ⟨by
                rw [← HRE.out, drop_at HY.out, arow, List.getD_eq_getElem?_getD, HZ.out]; rfl⟩
              clear hy hz q1
              go_wp2_with (first | ((with_reducible show wpList _ _ _ ({ dst := some 56, op := _, type := _, pos := _, after := _, guard := _ } :: _) _ _); refine lit_event 5 2 #[B z, B y] rfl (by go_simp) ?_; intro g1 v1 hg1 hl1 hb1) | (go_at_call 89; refine (add_any _ _ _ _ [z, y] _ (by simp) (rd_blk B [z, y] hg1.out (by simp))).mono ?_; rintro e w' ⟨rfl, rfl⟩; obtain ⟨z', hz', hcz', hfz'⟩ := (HOW.out.below hb1.out).at' (M - m + j) (by omega)))
              have hgr : g ≤ wr.heap.size := HG.out ▸ (HBO.out.trans HBI.out).size
              go_roundw
              case rel => exact ⟨j + 1, _, by omega, by go_num, (HOW.out.below hb1.out).set _ _, (HBI.out.trans (hb1.out.mono hgr)).setCell (Nat.le_refl _) _, HRS.out⟩
              case measure => simp [intOf]; omega
            · have e : j = m := by omega
              subst e
              have HRS : As (addAll M (ls.drop (q + 1)) out = addAll M ls (List.replicate M 0)) := ⟨by
                rw [← HRE.out, drop_end l (by rw [← HML.out]; exact Nat.le_refl _), arow]⟩
              clear HRE
              go_wp2_with fail
              go_roundw
              case rel => exact ⟨q + 1, out, by omega, by go_num, HOW.out, HBO.out.trans HBI.out, HRS.out⟩
              case measure => simp [intOf]; omega
        · have e : q = k := by omega
          subst e
          have HRS : As (out = addAll M ls (List.replicate M 0)) := ⟨by
            rw [← HRE.out, List.drop_eq_nil_of_le (by rw [HL.out.len]; exact Nat.le_refl _), addAll]⟩
          clear HRE
          go_wp2_with fail
          refine (trim_any _ M M out _ (by omega) (Nat.le_refl _) HOW.out.rd'.2).mono ?_
          rintro e w5 ⟨A5, n5, c5, rfl, hown5, hA5, hC5, hb5⟩
          have HO5 := As.mk hown5
          have HA5 := As.mk hA5
          have HC5 := As.mk hC5
          have HB5 := As.mk hb5
          clear hown5 hA5 hC5 hb5
          go_wp2_with fail
          go_ret
          have hgr : g ≤ wr.heap.size := HG.out ▸ HBL.out.size
          exact ⟨A5, n5, c5, rfl, by rw [HPD.out, ← HRS.out]; exact HO5.out.less (HG.out ▸ hgr), HA5.out, HC5.out, HG.out ▸ HBL.out.trans (HB5.out.mono hgr)⟩
theorem degree_any (A : Option Addr) (n c : Nat) (xs : List UInt8) (w : World) (hn : n ≤ 140737488351232) (hnc : n ≤ c) (hl : Rd B w A n xs) :
    Calls Try.prog 28 #[.slice A n c] w fun e w' => e = .returned (I (((trim xs).length : Int) - 1)) ∧ Below w.heap.size w w' := by
  have HL := As.mk hl; clear hl
  have ht := trim_le xs
  have hln := HL.out.len
  go_enter Try.func28, Try.ntmps28
  go_wp2_with fail
  refine (trim_any A n c xs w hn hnc HL.out).mono ?_
  rintro e w1 ⟨A1, n1, c1, rfl, hown, _, _, hb⟩
  have hn1 := hown.rd'.1
  have HB := As.mk hb
  have HN := As.mk hn1
  have hb1 : n1 ≤ 140737488351232 := by omega
  clear hown hb hn1 ht hln
  go_wp2_with fail
  go_ret
  exact ⟨by rw [← HN.out]; rfl, HB.out⟩
end Go.Proofs.Ytdcjionaedcfoaa.Poly
