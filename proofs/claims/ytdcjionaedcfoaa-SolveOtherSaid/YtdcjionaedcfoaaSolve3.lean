/- Walks of layer 7 (solve): plus, scaled, gap, erasures. -/
import Derived.Test.YtdcjionaedcfoaaSolve2
set_option linter.unusedVariables false
set_option linter.unusedSimpArgs false
namespace Go.Proofs.Ytdcjionaedcfoaa.Solve
open Go.RowKit Go.Proofs.Ytdcjionaedcfoaa.L Go.Proofs.Ytdcjionaedcfoaa.Gf Go.Proofs.Ytdcjionaedcfoaa.Poly Go.Proofs.Ytdcjionaedcfoaa.Rs

/-- The first k places hold f. -/
def Fill (f : Nat → UInt8) (cur : List UInt8) (k : Nat) : Prop := ∀ t, t < k → cur[t]? = some (f t)
theorem Fill.start (f : Nat → UInt8) (cur : List UInt8) : Fill f cur 0 := fun t h => by omega
theorem Fill.step {f : Nat → UInt8} {cur : List UInt8} {k : Nat} (h : Fill f cur k) (hk : k < cur.length) : Fill f (cur.set k (f k)) (k + 1) := fun t ht => by
  by_cases e : k = t
  · subst e; rw [List.getElem?_set_self hk]
  · rw [List.getElem?_set_ne e]; exact h t (by omega)
theorem Fill.done {f : Nat → UInt8} {cur : List UInt8} {k : Nat} (h : Fill f cur k) (hk : cur.length = k) : cur = (List.range k).map f := by
  apply List.ext_getElem?
  intro t
  by_cases ht : t < k
  · rw [h t ht]; simp [ht]
  · rw [List.getElem?_eq_none (by omega), List.getElem?_eq_none (by simp; omega)]

/-! ### plus -/
def plusF (a b : List UInt8) (c : UInt8) (i : Nat) : UInt8 := gadd [patI a (i : Int), gmul [c, patI b ((i : Int) - 1)]]
def pplus (a b : List UInt8) (c : UInt8) : List UInt8 := (List.range (max a.length (b.length + 1))).map (plusF a b c)
set_option maxRecDepth 100000 in
set_option maxHeartbeats 1000000 in
theorem plus_any (v p n pp : Nat) (V3 V4 V5 : Value) (A A2 : Option Addr) (m c m2 c2 : Nat) (xs ys : List UInt8) (z : UInt8) (w : World) (hs : SolAt w v p n pp V3 V4 V5) (hm : m ≤ 70368744177664) (hm2 : m2 ≤ 70368744177664) (hl : Rd B w A m xs) (hl2 : Rd B w A2 m2 ys) :
    Calls Try.prog 160 #[.pointer (some ⟨v, 0, none⟩), .slice A m c, .slice A2 m2 c2, B z] w (RetB w (pplus xs ys z)) := by
  have HS := As.mk hs; clear hs
  have HL := As.mk hl; clear hl
  have HL2 := As.mk hl2; clear hl2
  have HM : As ((if (m : Int) < (m2 : Int) + 1 then (m2 : Int) + 1 else (m : Int)) = ((max m (m2 + 1) : Nat) : Int)) := ⟨by split <;> omega⟩
  have HP : As (pplus xs ys z = (List.range (max m (m2 + 1))).map (plusF xs ys z)) := ⟨by rw [pplus, HL.out.len, HL2.out.len]⟩
  generalize hM : max m (m2 + 1) = M at *
  have hMb : M ≤ 70368744177665 := by omega
  clear hM
  have hq := HM.out
  go_enter Try.func160, Try.ntmps160
  go_wp2_with (at_make; refine make_event w w.heap.size 39 5 (.int .u8 0) 1 _ _ M rfl rfl Try.underlying39 info_u8 rfl rfl rfl (by omega) (by omega) (Below.refl _ _) (Nat.le_refl _) ?_; intro w3 HQ HB3 HB3' hsz)
  clear hq
  generalize hg : w.heap.size = g at *
  have HG := As.mk hg
  clear hg
  go_loopw [20] (fun i wr => ∃ (k : Nat) (cur : List UInt8), k ≤ M ∧ i = .int .i64 k ∧ Own B 5 wr g (.slice (some ⟨g, 0, none⟩) M M) cur ∧ Fill (plusF xs ys z) cur k ∧ Below g w wr) (fun i _ => M - (intOf i).toNat)
  case atStart => exact ⟨0, List.replicate M 0, by omega, rfl, Own.of_row (by rw [List.map_replicate]; exact HQ.out), Fill.start _ _, HB3.out⟩
  case round =>
    obtain ⟨k, cur, hk, rfl, hown, hf, hbl⟩ := hrel
    have HOW := As.mk hown; clear hown
    have HF := As.mk hf; clear hf
    have HBL := As.mk hbl; clear hbl
    clear HQ HB3 HB3' hsz
    by_cases hlt : k < M
    · go_wp2_with fail
      have q1 : IntKind.i64.wrap ((k : Int) - 1) = (k : Int) - 1 := IntWalk.i64_in _ (by omega)
      have HFX : As (gadd [patI xs (k : Int), gmul [z, patI ys ((k : Int) - 1)]] = plusF xs ys z k) := ⟨rfl⟩
      generalize hx : patI xs (k : Int) = x at *
      have HX := As.mk hx; clear hx
      generalize hy : patI ys ((k : Int) - 1) = y at *
      have HY := As.mk hy; clear hy
      refine regionT [0, 1, 2, 3, 4, 5, 6, 7, 9, 10, 11, 12, 13, 14, 15, 16, 8, 17, 18, 19, 20, 21, 22, 23] mixed (by kernel_rfl) (by decide) (by kernel_rfl) ?_
      intro wd hd hds
      have HSD : As (SolAt wd v p n pp V3 V4 V5) := ⟨HS.out.below (HG.out ▸ (HBL.out.trans (hd.out _)))⟩
      have HOD : As (Own B 5 wd g (.slice (some ⟨g, 0, none⟩) M M) cur) := ⟨HOW.out.below (hd.out _)⟩
      have HBD : As (Below g w wd) := ⟨HBL.out.trans (hd.out _)⟩
      have HLD : As (Rd B wd A m xs) := ⟨HL.out.below (HG.out ▸ HBD.out)⟩
      have HLD2 : As (Rd B wd A2 m2 ys) := ⟨HL2.out.below (HG.out ▸ HBD.out)⟩
      clear HOW HBL hd hds
      iterate 5 (refine wpT_float rfl rfl rfl (fun w' => by go_simp; rfl) ?_; try simp only [Act.put, List.getElem_toArray, List.getElem_cons_zero, List.getElem_cons_succ, List.setIfInBounds_toArray, List.set_cons_zero, List.set_cons_succ])
      (refine wpT_load rfl rfl rfl rfl (fun w' hw' => by obtain ⟨x0, x1, x2, x3, x4, x5, _, _⟩ := HSD.out.below hw'; go_simp; rfl) ?_; try simp only [Act.put, List.getElem_toArray, List.getElem_cons_zero, List.getElem_cons_succ, List.setIfInBounds_toArray, List.set_cons_zero, List.set_cons_succ])
      iterate 5 (refine wpT_float rfl rfl rfl (fun w' => by go_simp; rfl) ?_; try simp only [Act.put, List.getElem_toArray, List.getElem_cons_zero, List.getElem_cons_succ, List.setIfInBounds_toArray, List.set_cons_zero, List.set_cons_succ])
      (refine wpT_load rfl rfl rfl rfl (fun w' hw' => by obtain ⟨x0, x1, x2, x3, x4, x5, _, _⟩ := HSD.out.below hw'; go_simp; rfl) ?_; try simp only [Act.put, List.getElem_toArray, List.getElem_cons_zero, List.getElem_cons_succ, List.setIfInBounds_toArray, List.set_cons_zero, List.set_cons_succ])
      iterate 4 (refine wpT_float rfl rfl rfl (fun w' => by go_simp; rfl) ?_; try simp only [Act.put, List.getElem_toArray, List.getElem_cons_zero, List.getElem_cons_succ, List.setIfInBounds_toArray, List.set_cons_zero, List.set_cons_succ])
      refine wpT_op rfl rfl rfl ?_
      go_simp
      refine (at_any A m c xs (k : Int) _ HLD.out).mono ?_
      rw [HX.out]
      rintro e w' ⟨rfl, rfl⟩
      refine ⟨Below.refl _ _, ?_⟩
      refine wpT_op rfl rfl rfl ?_
      go_simp
      refine (at_any A2 m2 c2 ys ((k : Int) - 1) _ HLD2.out).mono ?_
      rw [HY.out]
      rintro e w' ⟨rfl, rfl⟩
      refine ⟨Below.refl _ _, ?_⟩
      refine wpT_lit 5 2 #[B z, B y] rfl rfl rfl (by go_simp) ?_
      intro g1 v1 hg1 hlg1 hb1
      try simp only [Act.put, List.getElem_toArray, List.getElem_cons_zero, List.getElem_cons_succ, List.setIfInBounds_toArray, List.set_cons_zero, List.set_cons_succ]
      refine wpT_op rfl rfl rfl ?_
      go_simp
      refine (mul_any p _ _ _ [z, y] _ (HSD.out.field.below hb1.out) (by simp) (rd_blk B [z, y] hg1.out (by simp))).mono ?_
      rintro e w' ⟨rfl, rfl⟩
      refine ⟨Below.refl _ _, ?_⟩
      refine wpT_lit 5 2 #[B x, B (gmul [z, y])] rfl rfl rfl (by go_simp) ?_
      intro g2 v2 hg2 hlg2 hb2
      try simp only [Act.put, List.getElem_toArray, List.getElem_cons_zero, List.getElem_cons_succ, List.setIfInBounds_toArray, List.set_cons_zero, List.set_cons_succ]
      refine wpT_op rfl rfl rfl ?_
      go_simp
      refine (add_any _ _ _ _ [x, gmul [z, y]] _ (by simp) (rd_blk B [x, gmul [z, y]] hg2.out (by simp))).mono ?_
      rintro e w' ⟨rfl, rfl⟩
      refine ⟨Below.refl _ _, ?_⟩
      generalize hr : gadd [x, gmul [z, y]] = r at *
      have HR := As.mk hr
      clear hr
      iterate 1 (refine wpT_float rfl rfl rfl (fun w' => by go_simp; rfl) ?_; try simp only [Act.put, List.getElem_toArray, List.getElem_cons_zero, List.getElem_cons_succ, List.setIfInBounds_toArray, List.set_cons_zero, List.set_cons_succ])
      have HOV : As (Own B 5 v2 g (.slice (some ⟨g, 0, none⟩) M M) cur) := ⟨(HOD.out.below hb1.out).below hb2.out⟩
      have HBV : As (Below g w v2) := ⟨(HBD.out.trans (hb1.out.mono (HG.out ▸ HBD.out.size))).trans (hb2.out.mono (Nat.le_trans (HG.out ▸ HBD.out.size) hb1.out.size))⟩
      obtain ⟨z', hz', hcz', hfz'⟩ := HOV.out.at' k hlt
      have HOS : As (Own B 5 (v2.setCell ⟨g, k, none⟩ (B r)) g (.slice (some ⟨g, 0, none⟩) M M) (cur.set k r)) := ⟨HOV.out.set _ _⟩
      have HBS : As (Below g w (v2.setCell ⟨g, k, none⟩ (B r))) := ⟨HBV.out.setCell (Nat.le_refl _) _⟩
      have HFS : As (Fill (plusF xs ys z) (cur.set k r) (k + 1)) := ⟨by have := HF.out.step (f := plusF xs ys z) (by rw [← HOV.out.rd'.1]; exact hlt); rwa [← HFX.out] at this⟩
      clear HOD HBD HSD HLD HLD2 hg1 hb1 hg2 hb2 HOV HBV hz'
      refine wpT_last rfl rfl (by kernel_rfl) ?_
      go_wp2_with fail
      refine NoPanic.normal ?_
      try clear q1
      go_wp2_with fail
      go_roundw
      case rel => exact ⟨k + 1, _, by omega, by go_num, HOS.out, HFS.out, HBS.out⟩
      case measure => simp [intOf]; omega
    · have e : k = M := by omega
      have hd : As (cur = pplus xs ys z) := ⟨by rw [HP.out]; exact e ▸ HF.out.done (by rw [e]; exact HOW.out.rd'.1.symm)⟩
      clear e
      go_wp2_with fail
      go_ret
      exact ⟨_, _, _, rfl, by rw [← hd.out]; rw [HG.out]; exact HOW.out, (fun h => by cases h), Nat.le_refl _, by rw [HG.out]; exact HBL.out⟩

/-! ### scaled -/
def pscaled (a : List UInt8) (c : UInt8) : List UInt8 := a.map fun x => gmul [x, c]
theorem pscaled_get (a : List UInt8) (c : UInt8) (k : Nat) (x : UInt8) (h : a[k]? = some x) : (pscaled a c)[k]? = some (gmul [x, c]) := by
  rw [pscaled, List.getElem?_map, h]; rfl
def Part (a : List UInt8) (c : UInt8) (cur : List UInt8) (k : Nat) : Prop := cur.length = a.length ∧ ∀ t, t < a.length → cur[t]? = if t < k then (pscaled a c)[t]? else a[t]?
theorem Part.start (a : List UInt8) (c : UInt8) : Part a c a 0 := ⟨rfl, fun t ht => by rw [if_neg (by omega)]⟩
theorem Part.at_ {a : List UInt8} {c : UInt8} {cur : List UInt8} {k : Nat} (h : Part a c cur k) (hk : k < a.length) : cur[k]? = a[k]? := by rw [h.2 k hk, if_neg (by omega)]
theorem Part.step {a : List UInt8} {c : UInt8} {cur : List UInt8} {k : Nat} {x : UInt8} (h : Part a c cur k) (hk : k < a.length) (hx : cur[k]? = some x) : Part a c (cur.set k (gmul [x, c])) (k + 1) := by
  refine ⟨by rw [List.length_set, h.1], fun t ht => ?_⟩
  rw [h.at_ hk] at hx
  by_cases e : k = t
  · subst e; rw [List.getElem?_set_self (by rw [h.1]; exact hk), if_pos (by omega), pscaled_get a c k x hx]
  · rw [List.getElem?_set_ne e, h.2 t ht]
    by_cases e2 : t < k
    · rw [if_pos e2, if_pos (by omega)]
    · rw [if_neg e2, if_neg (by omega)]
theorem Part.done {a : List UInt8} {c : UInt8} {cur : List UInt8} {k : Nat} (h : Part a c cur k) (hk : a.length ≤ k) : cur = pscaled a c := by
  apply List.ext_getElem?
  intro t
  by_cases ht : t < a.length
  · rw [h.2 t ht, if_pos (by omega)]
  · rw [List.getElem?_eq_none (by rw [h.1]; omega), List.getElem?_eq_none (by simp [pscaled]; omega)]
set_option maxRecDepth 100000 in
set_option maxHeartbeats 1000000 in
theorem scaled_any (v p n pp : Nat) (V3 V4 V5 : Value) (A : Option Addr) (m c : Nat) (xs : List UInt8) (z : UInt8) (w : World) (hs : SolAt w v p n pp V3 V4 V5) (hm : m ≤ 70368744177664) (hl : Rd B w A m xs) :
    Calls Try.prog 161 #[.pointer (some ⟨v, 0, none⟩), .slice A m c, B z] w (RetB w (pscaled xs z)) := by
  have HS := As.mk hs; clear hs
  have HL := As.mk hl; clear hl
  have hL := HL.out.len
  go_enter Try.func161, Try.ntmps161
  go_wp2_with fail
  refine (clone_any A m c xs w (by omega) HL.out).mono ?_
  rintro e w1 ⟨A1, m1, c1, rfl, hown1, hA1, hC1, hb1⟩
  have HO1 := As.mk hown1
  have HA1 := As.mk hA1
  have HC1 := As.mk hC1
  have HB1 := As.mk hb1
  have h1 := hown1.rd'.1
  have H1 := As.mk h1
  have h2 : m1 ≤ 70368744177664 := by omega
  clear hown1 hA1 hC1 hb1 h1 hL
  go_wp2_with fail
  go_loopw [13] (fun i wr => ∃ (k : Nat) (cur : List UInt8), k ≤ m1 ∧ i = .int .i64 k ∧ Own B 5 wr w.heap.size (.slice A1 m1 c1) cur ∧ Part xs z cur k ∧ Below w.heap.size w wr) (fun i _ => m1 - (intOf i).toNat)
  case atStart => exact ⟨0, xs, by omega, rfl, HO1.out, Part.start _ _, HB1.out⟩
  case round =>
    obtain ⟨k, cur, hk, rfl, hown, hf, hbl⟩ := hrel
    have HOW := As.mk hown; clear hown
    have HF := As.mk hf; clear hf
    have HBL := As.mk hbl; clear hbl
    clear HO1 HB1
    by_cases hlt : k < m1
    · obtain ⟨g, rfl, hg1, hg2, _, _⟩ := ownV_at HOW.out.row k (by omega)
      have HG := As.mk hg1
      clear hg1 hg2
      go_wp2_with fail
      refine regionT [0, 1, 2, 3, 4, 5, 6, 7, 8, 9, 10, 11, 12, 13, 14] mixed (by kernel_rfl) (by decide) (by kernel_rfl) ?_
      intro wd hd hds
      have HOD : As (Own B 5 wd w.heap.size (.slice (some ⟨g, 0, none⟩) m1 c1) cur) := ⟨HOW.out.below (hd.out _)⟩
      have HBD : As (Below w.heap.size w wd) := ⟨HBL.out.trans (hd.out _)⟩
      have HSD : As (SolAt wd v p n pp V3 V4 V5) := ⟨HS.out.below HBD.out⟩
      obtain ⟨x, hx, hcx, _⟩ := HOD.out.at' k hlt
      have HX := As.mk hx
      have HCX := As.mk hcx
      clear hx hcx HOW HBL hd hds
      iterate 5 (refine wpT_float rfl rfl rfl (fun w' => by go_simp; rfl) ?_; try simp only [Act.put, List.getElem_toArray, List.getElem_cons_zero, List.getElem_cons_succ, List.setIfInBounds_toArray, List.set_cons_zero, List.set_cons_succ])
      (refine wpT_load rfl rfl rfl rfl (fun w' hw' => by obtain ⟨x0, x1, x2, x3, x4, x5, _, _⟩ := HSD.out.below hw'; go_simp; rfl) ?_; try simp only [Act.put, List.getElem_toArray, List.getElem_cons_zero, List.getElem_cons_succ, List.setIfInBounds_toArray, List.set_cons_zero, List.set_cons_succ])
      iterate 3 (refine wpT_float rfl rfl rfl (fun w' => by go_simp; rfl) ?_; try simp only [Act.put, List.getElem_toArray, List.getElem_cons_zero, List.getElem_cons_succ, List.setIfInBounds_toArray, List.set_cons_zero, List.set_cons_succ])
      (refine wpT_load rfl rfl rfl rfl (fun w' hw' => by have hq : w'.cell? ⟨g, k, none⟩ = some (B x) := (hw'.cell (p := ⟨g, k, none⟩) (World.block_lt_of_cell? _ _ HCX.out)).trans HCX.out; go_simp; rfl) ?_; try simp only [Act.put, List.getElem_toArray, List.getElem_cons_zero, List.getElem_cons_succ, List.setIfInBounds_toArray, List.set_cons_zero, List.set_cons_succ])
      iterate 1 (refine wpT_float rfl rfl rfl (fun w' => by go_simp; rfl) ?_; try simp only [Act.put, List.getElem_toArray, List.getElem_cons_zero, List.getElem_cons_succ, List.setIfInBounds_toArray, List.set_cons_zero, List.set_cons_succ])
      refine wpT_lit 5 2 #[B x, B z] rfl rfl rfl (by go_simp) ?_
      intro g1 v1 hg1 hlg1 hb1
      try simp only [Act.put, List.getElem_toArray, List.getElem_cons_zero, List.getElem_cons_succ, List.setIfInBounds_toArray, List.set_cons_zero, List.set_cons_succ]
      refine wpT_op rfl rfl rfl ?_
      go_simp
      refine (mul_any p _ _ _ [x, z] _ (HSD.out.field.below hb1.out) (by simp) (rd_blk B [x, z] hg1.out (by simp))).mono ?_
      rintro e w' ⟨rfl, rfl⟩
      refine ⟨Below.refl _ _, ?_⟩
      iterate 1 (refine wpT_float rfl rfl rfl (fun w' => by go_simp; rfl) ?_; try simp only [Act.put, List.getElem_toArray, List.getElem_cons_zero, List.getElem_cons_succ, List.setIfInBounds_toArray, List.set_cons_zero, List.set_cons_succ])
      have HOV : As (Own B 5 v1 w.heap.size (.slice (some ⟨g, 0, none⟩) m1 c1) cur) := ⟨HOD.out.below hb1.out⟩
      have HBV : As (Below w.heap.size w v1) := ⟨below_then HBD.out HBD.out.size hb1.out⟩
      obtain ⟨z', hz', hcz', hfz'⟩ := HOV.out.at' k hlt
      have HOS : As (Own B 5 (v1.setCell ⟨g, k, none⟩ (B (gmul [x, z]))) w.heap.size (.slice (some ⟨g, 0, none⟩) m1 c1) (cur.set k (gmul [x, z]))) := ⟨HOV.out.set _ _⟩
      have HBS : As (Below w.heap.size w (v1.setCell ⟨g, k, none⟩ (B (gmul [x, z])))) := ⟨HBV.out.setCell HG.out _⟩
      have HFS : As (Part xs z (cur.set k (gmul [x, z])) (k + 1)) := ⟨HF.out.step (by have := H1.out; omega) HX.out⟩
      clear HOD HBD HSD hg1 hb1 HOV HBV hz'
      refine wpT_last rfl rfl (by kernel_rfl) ?_
      go_wp2_with fail
      refine NoPanic.normal ?_
      go_wp2_with fail
      go_roundw
      case rel => exact ⟨k + 1, _, by omega, by go_num, HOS.out, HFS.out, HBS.out⟩
      case measure => simp [intOf]; omega
    · have hd : As (cur = pscaled xs z) := ⟨HF.out.done (by have := H1.out; omega)⟩
      go_wp2_with fail
      go_ret
      exact ⟨_, _, _, rfl, by rw [← hd.out]; exact HOW.out, HA1.out, HC1.out, HBL.out⟩

/-! ### gap -/
def gapF (loc s : List UInt8) (r : Int) : Nat → UInt8 → UInt8
  | j, out => gadd [out, gmul [loc.getD j 0, patI s (r - 1 - j)]]
def gapL (loc s : List UInt8) (r : Int) : Nat → UInt8
  | 0 => 0
  | j + 1 => gapF loc s r j (gapL loc s r j)
def pgap (loc s : List UInt8) (r : Int) : UInt8 := gapL loc s r loc.length
set_option maxRecDepth 100000 in
set_option maxHeartbeats 1000000 in
theorem gap_any (v p n pp : Nat) (V4 : Value) (A3 A5 : Option Addr) (m3 c3 m5 c5 : Nat) (s loc : List UInt8) (r : Int) (w : World) (hs : SolAt w v p n pp (.slice A3 m3 c3) V4 (.slice A5 m5 c5)) (hr : 0 ≤ r ∧ r ≤ 1000) (hm : m5 ≤ 70368744177664) (hl3 : Rd B w A3 m3 s) (hl5 : Rd B w A5 m5 loc) :
    Calls Try.prog 159 #[.pointer (some ⟨v, 0, none⟩), I r] w fun e w' => e = .returned (B (pgap loc s r)) ∧ Below w.heap.size w w' := by
  have HS := As.mk hs
  have HL3 := As.mk hl3; clear hl3
  have HL5 := As.mk hl5; clear hl5
  obtain ⟨x0, x1, x2, x3, x4, x5, _, _⟩ := hs
  go_enter Try.func159, Try.ntmps159
  go_wp2_with fail
  clear x0 x1 x2 x3 x4 x5
  go_loopw [5, 12] (fun o i wr => ∃ (k : Nat), k ≤ m5 ∧ i = .int .i64 k ∧ o = B (gapL loc s r k) ∧ Below w.heap.size w wr) (fun _ i _ => m5 - (intOf i).toNat)
  case atStart => exact ⟨0, by omega, rfl, rfl, Below.refl _ _⟩
  case round =>
    obtain ⟨k, hk, rfl, rfl, hbl⟩ := hrel
    have HBL := As.mk hbl; clear hbl
    by_cases hlt : k < m5
    · have hG : gapL loc s r (k + 1) = gadd [gapL loc s r k, gmul [loc.getD k 0, patI s (r - 1 - k)]] := rfl
      obtain ⟨ad, rfl, x, hx, hc⟩ := (HL5.out.below HBL.out).at_ k hlt
      rw [List.getD_eq_getElem?_getD, hx, Option.getD_some] at hG
      generalize ho : gapL loc s r k = out at *
      generalize hy : patI s (r - 1 - k) = y at *
      have HXX := As.mk hx
      have HY := As.mk hy
      have HGG := As.mk hG
      clear ho hy hG hx hc
      go_wp2_with fail
      have q1 : IntKind.i64.wrap (r - 1) = r - 1 := IntWalk.i64_in _ (by omega)
      have q2 : IntKind.i64.wrap (r - 1 - k) = r - 1 - k := IntWalk.i64_in _ (by omega)
      refine regionT [0, 1, 2, 3, 4, 5, 6, 7, 8, 9, 10, 11, 12, 13, 14, 15, 16, 17, 18, 19, 20, 21, 22, 23, 24, 25, 26, 27, 28, 29] mixed (by kernel_rfl) (by decide) (by kernel_rfl) ?_
      intro wd hd hds
      have HBD : As (Below w.heap.size w wd) := ⟨HBL.out.trans (hd.out _)⟩
      have HSD : As (SolAt wd v p n pp (.slice A3 m3 c3) V4 (.slice (some ad) m5 c5)) := ⟨HS.out.below HBD.out⟩
      have HLD3 : As (Rd B wd A3 m3 s) := ⟨HL3.out.below HBD.out⟩
      obtain ⟨ad', he', x', hx', hc'⟩ := (HL5.out.below HBD.out).at_ k hlt
      obtain rfl : ad = ad' := Option.some.inj he'
      have HCX : As (wd.cell? (ad.add k) = some (B x)) := ⟨by have := HXX.out; rw [hx'] at this; cases this; exact hc'⟩
      clear hx' hc' he' HBL hd hds
      iterate 3 (refine wpT_float rfl rfl rfl (fun w' => by go_simp; rfl) ?_; try simp only [Act.put, List.getElem_toArray, List.getElem_cons_zero, List.getElem_cons_succ, List.setIfInBounds_toArray, List.set_cons_zero, List.set_cons_succ])
      (refine wpT_load rfl rfl rfl rfl (fun w' hw' => by obtain ⟨x0, x1, x2, x3, x4, x5, _, _⟩ := HSD.out.below hw'; go_simp; rfl) ?_; try simp only [Act.put, List.getElem_toArray, List.getElem_cons_zero, List.getElem_cons_succ, List.setIfInBounds_toArray, List.set_cons_zero, List.set_cons_succ])
      iterate 4 (refine wpT_float rfl rfl rfl (fun w' => by go_simp; rfl) ?_; try simp only [Act.put, List.getElem_toArray, List.getElem_cons_zero, List.getElem_cons_succ, List.setIfInBounds_toArray, List.set_cons_zero, List.set_cons_succ])
      (refine wpT_load rfl rfl rfl rfl (fun w' hw' => by obtain ⟨x0, x1, x2, x3, x4, x5, _, _⟩ := HSD.out.below hw'; go_simp; rfl) ?_; try simp only [Act.put, List.getElem_toArray, List.getElem_cons_zero, List.getElem_cons_succ, List.setIfInBounds_toArray, List.set_cons_zero, List.set_cons_succ])
      iterate 3 (refine wpT_float rfl rfl rfl (fun w' => by go_simp; rfl) ?_; try simp only [Act.put, List.getElem_toArray, List.getElem_cons_zero, List.getElem_cons_succ, List.setIfInBounds_toArray, List.set_cons_zero, List.set_cons_succ])
      (refine wpT_load rfl rfl rfl rfl (fun w' hw' => by obtain ⟨x0, x1, x2, x3, x4, x5, _, _⟩ := HSD.out.below hw'; go_simp; rfl) ?_; try simp only [Act.put, List.getElem_toArray, List.getElem_cons_zero, List.getElem_cons_succ, List.setIfInBounds_toArray, List.set_cons_zero, List.set_cons_succ])
      iterate 2 (refine wpT_float rfl rfl rfl (fun w' => by go_simp; rfl) ?_; try simp only [Act.put, List.getElem_toArray, List.getElem_cons_zero, List.getElem_cons_succ, List.setIfInBounds_toArray, List.set_cons_zero, List.set_cons_succ])
      (refine wpT_load rfl rfl rfl rfl (fun w' hw' => by have hq : w'.cell? (ad.add k) = some (B x) := (hw'.cell (p := (ad.add k)) (World.block_lt_of_cell? _ _ HCX.out)).trans HCX.out; go_simp; rfl) ?_; try simp only [Act.put, List.getElem_toArray, List.getElem_cons_zero, List.getElem_cons_succ, List.setIfInBounds_toArray, List.set_cons_zero, List.set_cons_succ])
      iterate 3 (refine wpT_float rfl rfl rfl (fun w' => by go_simp; rfl) ?_; try simp only [Act.put, List.getElem_toArray, List.getElem_cons_zero, List.getElem_cons_succ, List.setIfInBounds_toArray, List.set_cons_zero, List.set_cons_succ])
      (refine wpT_load rfl rfl rfl rfl (fun w' hw' => by obtain ⟨x0, x1, x2, x3, x4, x5, _, _⟩ := HSD.out.below hw'; go_simp; rfl) ?_; try simp only [Act.put, List.getElem_toArray, List.getElem_cons_zero, List.getElem_cons_succ, List.setIfInBounds_toArray, List.set_cons_zero, List.set_cons_succ])
      iterate 4 (refine wpT_float rfl rfl rfl (fun w' => by go_simp; rfl) ?_; try simp only [Act.put, List.getElem_toArray, List.getElem_cons_zero, List.getElem_cons_succ, List.setIfInBounds_toArray, List.set_cons_zero, List.set_cons_succ])
      refine wpT_op rfl rfl rfl ?_
      go_simp
      refine (at_any A3 m3 c3 s (r - 1 - k) _ HLD3.out).mono ?_
      rw [HY.out]
      rintro e w' ⟨rfl, rfl⟩
      refine ⟨Below.refl _ _, ?_⟩
      refine wpT_lit 5 2 #[B x, B y] rfl rfl rfl (by go_simp) ?_
      intro g1 v1 hg1 hlg1 hb1
      try simp only [Act.put, List.getElem_toArray, List.getElem_cons_zero, List.getElem_cons_succ, List.setIfInBounds_toArray, List.set_cons_zero, List.set_cons_succ]
      refine wpT_op rfl rfl rfl ?_
      go_simp
      refine (mul_any p _ _ _ [x, y] _ (HSD.out.field.below hb1.out) (by simp) (rd_blk B [x, y] hg1.out (by simp))).mono ?_
      rintro e w' ⟨rfl, rfl⟩
      refine ⟨Below.refl _ _, ?_⟩
      refine wpT_lit 5 2 #[B out, B (gmul [x, y])] rfl rfl rfl (by go_simp) ?_
      intro g2 v2 hg2 hlg2 hb2
      try simp only [Act.put, List.getElem_toArray, List.getElem_cons_zero, List.getElem_cons_succ, List.setIfInBounds_toArray, List.set_cons_zero, List.set_cons_succ]
      refine wpT_op rfl rfl rfl ?_
      go_simp
      refine (add_any _ _ _ _ [out, gmul [x, y]] _ (by simp) (rd_blk B [out, gmul [x, y]] hg2.out (by simp))).mono ?_
      rintro e w' ⟨rfl, rfl⟩
      refine ⟨Below.refl _ _, ?_⟩
      iterate 1 (refine wpT_float rfl rfl rfl (fun w' => by go_simp; rfl) ?_; try simp only [Act.put, List.getElem_toArray, List.getElem_cons_zero, List.getElem_cons_succ, List.setIfInBounds_toArray, List.set_cons_zero, List.set_cons_succ])
      refine wpT_done (NoPanic.normal ?_)
      try clear q1 q2
      go_wp2_with fail
      go_roundw
      case rel => exact ⟨k + 1, by omega, by go_num, by rw [HGG.out], below_then (below_then HBD.out HBD.out.size hb1.out) (Nat.le_trans HBD.out.size hb1.out.size) hb2.out⟩
      case measure => simp [intOf]; omega
    · have e : k = loc.length := by have := HL5.out.len; omega
      have he : As (gapL loc s r k = pgap loc s r) := ⟨by rw [pgap, e]⟩
      clear e
      go_wp2_with fail
      go_ret
      exact ⟨by rw [← he.out]; rfl, HBL.out⟩
end Go.Proofs.Ytdcjionaedcfoaa.Solve
