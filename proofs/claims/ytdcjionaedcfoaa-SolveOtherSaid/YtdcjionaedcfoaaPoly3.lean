/- Walks: poly.Eval, Mul, Roots. -/
import Derived.Test.YtdcjionaedcfoaaPoly2
set_option linter.unusedVariables false
set_option linter.unusedSimpArgs false
namespace Go.Proofs.Ytdcjionaedcfoaa.Poly
open Go.RowKit Go.Proofs.Ytdcjionaedcfoaa.L Go.Proofs.Ytdcjionaedcfoaa.Gf

/-! ### Eval -/
def pevalF (x : UInt8) : List UInt8 → UInt8 → UInt8
  | [], out => out
  | c :: a, out => pevalF x a (gadd [gmul [out, x], c])
def peval (a : List UInt8) (x : UInt8) : UInt8 := pevalF x a 0
set_option maxRecDepth 100000 in
theorem eval_any (p : Nat) (A : Option Addr) (n c : Nat) (xs : List UInt8) (x : UInt8) (w : World) (hf : FieldAt w p) (hl : Rd B w A n xs) :
    Calls Try.prog 29 #[.pointer (some ⟨p, 0, none⟩), .slice A n c, B x] w fun e w' => e = .returned (B (peval xs x)) ∧ Below w.heap.size w w' := by
  have hle := hl.le
  have HL := As.mk hl; clear hl
  have HF := As.mk hf; clear hf
  go_enter Try.func29, Try.ntmps29
  go_wp2_with fail
  go_loopw [7, 12] (fun o i wr => ∃ (k : Nat) (cur : UInt8), k ≤ n ∧ i = .int .i64 k ∧ o = B cur ∧ Below w.heap.size w wr ∧ pevalF x (xs.drop k) cur = peval xs x) (fun _ i _ => n - (intOf i).toNat)
  case atStart => exact ⟨0, 0, by omega, rfl, rfl, Below.refl _ _, rfl⟩
  case round =>
    obtain ⟨k, cur, hk, rfl, rfl, hbl, hres⟩ := hrel
    have HBL := As.mk hbl; clear hbl
    have HRE := As.mk hres; clear hres
    by_cases hlt : k < n
    · obtain ⟨ad, rfl, y, hy, hc⟩ := (HL.out.below HBL.out).at_ k hlt
      have HRS : As (pevalF x (xs.drop (k + 1)) (gadd [gmul [cur, x], y]) = peval xs x) := ⟨by rw [← HRE.out, drop_at hy]; rfl⟩
      have HF2 : As (FieldAt wr p) := ⟨HF.out.below HBL.out⟩
      clear hy HRE HL
      go_wp2_with (first | ((with_reducible show wpList _ _ _ ({ dst := some 20, op := _, type := _, pos := _, after := _, guard := _ } :: _) _ _); refine lit_event 5 2 #[B cur, B x] rfl (by go_simp) ?_; intro g1 v1 hg1 _ hb1) | (go_at_call 90; refine (mul_any p _ _ _ [cur, x] _ (HF2.out.below hb1.out) (by simp) (rd_blk B [cur, x] hg1.out (by simp))).mono ?_; rintro e w' ⟨rfl, rfl⟩) | ((with_reducible show wpList _ _ _ ({ dst := some 23, op := _, type := _, pos := _, after := _, guard := _ } :: _) _ _); refine lit_event 5 2 #[B (gmul [cur, x]), B y] rfl (by go_simp) ?_; intro g2 v2 hg2 _ hb2) | (go_at_call 89; refine (add_any _ _ _ _ [gmul [cur, x], y] _ (by simp) (rd_blk B [gmul [cur, x], y] hg2.out (by simp))).mono ?_; rintro e w' ⟨rfl, rfl⟩))
      go_roundw
      case rel => exact ⟨k + 1, _, by omega, by go_num, rfl, below_then (below_then HBL.out HBL.out.size hb1.out) (Nat.le_trans HBL.out.size hb1.out.size) hb2.out, HRS.out⟩
      case measure => simp [intOf]; omega
    · have e : k = xs.length := by have := HL.out.len; omega
      subst e
      have HRS : As (cur = peval xs x) := ⟨by rw [← HRE.out, List.drop_length]; rfl⟩
      clear HRE
      go_wp2_with fail
      go_ret
      exact ⟨by rw [← HRS.out]; rfl, HBL.out⟩

/-! ### Lists of lists -/
/-- A slice of slices of bytes. -/
def RdL (w : World) (A : Option Addr) (n : Nat) (ls : List (List UInt8)) : Prop :=
  ∃ vs : List Value, RdV 1 w A n vs ∧ vs.length = ls.length ∧ ∀ (i : Nat) (l : List UInt8), ls[i]? = some l → ∃ A' c, vs[i]? = some (Value.slice A' l.length c) ∧ (l.length ≤ c ∧ (A' = none → c = 0)) ∧ Rd B w A' l.length l
theorem RdL.len {w : World} {A : Option Addr} {n : Nat} {ls : List (List UInt8)} (h : RdL w A n ls) : ls.length = n := by
  obtain ⟨vs, h1, h2, _⟩ := h
  have := h1.1
  omega
theorem RdL.below {w w1 : World} {A : Option Addr} {n : Nat} {ls : List (List UInt8)} (h : RdL w A n ls) (hb : Below w.heap.size w w1) : RdL w1 A n ls := by
  obtain ⟨vs, h1, h2, h3⟩ := h
  refine ⟨vs, h1.below hb, h2, fun i l hl => ?_⟩
  obtain ⟨A', c, h4, h5, h6⟩ := h3 i l hl
  exact ⟨A', c, h4, h5, h6.below hb⟩
theorem RdL.at_ {w : World} {A : Option Addr} {n : Nat} {ls : List (List UInt8)} (h : RdL w A n ls) (k : Nat) (hk : k < n) :
    ∃ ad, A = some ad ∧ ∃ l A' m c, ls[k]? = some l ∧ m = l.length ∧ w.cell? (ad.add k) = some (.slice A' m c) ∧ (m ≤ c ∧ (A' = none → c = 0)) ∧ Rd B w A' m l := by
  have hl := h.len
  obtain ⟨vs, h1, h2, h3⟩ := h
  obtain ⟨ad, e, hc⟩ := h1.2.2 (by omega)
  obtain ⟨A', c, h4, h5, h6⟩ := h3 k (ls[k]'(by omega)) (List.getElem?_eq_getElem _)
  exact ⟨ad, e, _, A', _, c, List.getElem?_eq_getElem _, rfl, hc k _ h4, h5, h6⟩

/-! ### Mul -/
def pmulF : List (List UInt8) → List UInt8 → List UInt8
  | [], out => out
  | a :: l, out => pmulF l (ptwo out a)
def pmul (l : List (List UInt8)) : List UInt8 := pmulF l [1]
def lens (l : List (List UInt8)) : Nat := (l.map List.length).sum
theorem mrow_len (x : UInt8) : ∀ (ys : List UInt8) (j : Nat) (out : List UInt8), (mrow x ys j out).length = out.length
  | [], _, _ => rfl
  | y :: ys, j, out => by rw [mrow, mrow_len x ys, List.length_set]
theorem mall_len : ∀ (xs ys : List UInt8) (i : Nat) (out : List UInt8), (mall xs ys i out).length = out.length
  | [], _, _, _ => rfl
  | x :: xs, ys, i, out => by rw [mall, mall_len xs ys, mrow_len]
theorem ptwo_len (a b : List UInt8) : (ptwo a b).length ≤ a.length + b.length := by
  unfold ptwo
  split
  · simp
  · rw [mall_len, List.length_replicate]
    have := trim_le a
    have := trim_le b
    omega
theorem lens_drop (l : List (List UInt8)) (k : Nat) (x : List UInt8) (h : l[k]? = some x) : lens (l.drop k) = x.length + lens (l.drop (k + 1)) := by
  rw [drop_at h, lens, List.map_cons, List.sum_cons]; rfl
set_option maxRecDepth 100000 in
set_option maxHeartbeats 1000000 in
theorem mulL_any (p : Nat) (A : Option Addr) (n c : Nat) (ls : List (List UInt8)) (w : World) (hf : FieldAt w p) (hle : n ≤ 9223372036854775807) (hs : 1 + lens ls ≤ 70368744177664) (hl : RdL w A n ls) :
    Calls Try.prog 135 #[.pointer (some ⟨p, 0, none⟩), .slice A n c] w (RetB w (pmul ls)) := by
  have HL := As.mk hl; clear hl
  have HF := As.mk hf; clear hf
  have HS := As.mk hs; clear hs
  go_enter Try.func135, Try.ntmps135
  go_wp2_with (first | ((with_reducible show wpList _ _ _ ({ dst := some 10, op := _, type := _, pos := _, after := _, guard := _ } :: _) _ _); refine lit_event 5 1 #[.int .u8 1] rfl (by go_simp) ?_; intro g1 v1 hg1 hgl hb1))
  go_loopw [5, 13] (fun o i wr => ∃ (k : Nat) (A' : Option Addr) (m c' : Nat) (cur : List UInt8), k ≤ n ∧ i = .int .i64 k ∧ o = .slice A' m c' ∧ Own B 5 wr w.heap.size (.slice A' m c') cur ∧ (A' = none → c' = 0) ∧ m ≤ c' ∧ cur.length + lens (ls.drop k) ≤ 70368744177664 ∧ Below w.heap.size w wr ∧ pmulF (ls.drop k) cur = pmul ls) (fun _ i _ => n - (intOf i).toNat)
  case atStart => exact ⟨0, _, _, _, [1], by omega, rfl, rfl, own_blk B [1] hg1.out hgl.out (by simp), (fun h => by cases h), Nat.le_refl _, by simpa using HS.out, hb1.out, rfl⟩
  case round =>
    obtain ⟨k, A', m, c', cur, hk, rfl, rfl, hown, hA, hC, hlen, hbl, hres⟩ := hrel
    have HOW := As.mk hown; clear hown
    have HA := As.mk hA; clear hA
    have HC := As.mk hC; clear hC
    have HLN := As.mk hlen; clear hlen
    have HBL := As.mk hbl; clear hbl
    have HRE := As.mk hres; clear hres
    clear hg1 hgl hb1
    by_cases hlt : k < n
    · obtain ⟨ad, rfl, l, A2, m2, c2, hy, hm2, hc, hC2, hR2⟩ := (HL.out.below HBL.out).at_ k hlt
      have HRS : As (pmulF (ls.drop (k + 1)) (ptwo cur l) = pmul ls) := ⟨by rw [← HRE.out, drop_at hy]; rfl⟩
      have h1 := HLN.out
      rw [lens_drop ls k l hy, ← hm2] at h1
      have h2 := HOW.out.rd'.1
      have h3 := ptwo_len cur l
      rw [← hm2, ← h2] at h3
      rw [← h2] at h1
      have HN : As ((ptwo cur l).length + lens (ls.drop (k + 1)) ≤ 70368744177664) := ⟨by omega⟩
      have HM1 : As (m ≤ 70368744177664) := ⟨by omega⟩
      have HM2 : As (m2 ≤ 70368744177664) := ⟨by omega⟩
      have HR2 := As.mk hR2
      have HC2 := As.mk hC2.1
      clear h1 h2 h3 hy hm2 HRE HL hR2 hC2 HLN
      go_wp2_with (go_at_call 86; refine (two_any p _ _ _ _ _ _ cur l _ (HF.out.below HBL.out) HM1.out HM2.out HC.out HC2.out HOW.out.rd'.2 HR2.out).mono ?_; rintro e w1 ⟨A3, m3, c3, rfl, hown3, hA3, hC3, hb3⟩; have HO3 := As.mk hown3; have HA3 := As.mk hA3; have HC3 := As.mk hC3; have HB3 := As.mk hb3; clear hown3 hA3 hC3 hb3)
      go_roundw
      case rel => exact ⟨k + 1, _, _, _, _, by omega, by go_num, rfl, HO3.out.less HBL.out.size, HA3.out, HC3.out, HN.out, below_then HBL.out HBL.out.size HB3.out, HRS.out⟩
      case measure => simp [intOf]; omega
    · have e : k = ls.length := by have := HL.out.len; omega
      subst e
      have HRS : As (cur = pmul ls) := ⟨by rw [← HRE.out, List.drop_length]; rfl⟩
      clear HRE
      go_wp2_with fail
      go_ret
      exact ⟨_, _, _, rfl, by rw [← HRS.out]; exact HOW.out, HA.out, HC.out, HBL.out⟩

/-! ### Roots -/
def pfacs (l : List UInt8) : List (List UInt8) := l.map fun r => [1, r]
def proots (l : List UInt8) : List UInt8 := pmul (pfacs l)
theorem info_bs : (Try.prog.info? 39).map (fun i => (i.zero, i.size, i.bytes)) = some (some (.slice none 0 0), 1, 24) := by kernel_rfl
/-- Blocks of two bytes each. -/
def Facs (w : World) (gs : List Nat) (l : List UInt8) : Prop := gs.length = l.length ∧ ∀ (i g : Nat) (r : UInt8), gs[i]? = some g → l[i]? = some r → w.heap[g]? = some (.cells #[B 1, B r] 5 (0, 0))
def sl2 (g : Nat) : Value := .slice (some ⟨g, 0, none⟩) 2 2
theorem Facs.rdl {w : World} {A : Option Addr} {n : Nat} {gs : List Nat} {l : List UInt8} (h : Facs w gs l) (hr : RdV 1 w A n (gs.map sl2)) : RdL w A n (pfacs l) := by
  refine ⟨gs.map sl2, hr, by simp [pfacs, h.1], fun i l' hl => ?_⟩
  rw [pfacs, List.getElem?_map] at hl
  obtain ⟨r, hr', rfl⟩ := Option.map_eq_some_iff.1 hl
  have hi : i < gs.length := by rw [h.1]; exact (List.getElem?_eq_some_iff.1 hr').1
  have hg := h.2 i gs[i] r (List.getElem?_eq_getElem hi) hr'
  exact ⟨some ⟨gs[i], 0, none⟩, 2, by rw [List.getElem?_map, List.getElem?_eq_getElem hi]; rfl, ⟨by simp, (fun h => by cases h)⟩, rd_blk B [1, r] hg (by simp)⟩
theorem Facs.grown {w w1 : World} {base n : Nat} {v : Value} {us : List Value} {gs : List Nat} {l : List UInt8} (h : Facs w gs l) (ho : w.ownsRow base 39 1 v n us) (hg : w.grownBy w1 v.ownBlock) : Facs w1 gs l := by
  refine ⟨h.1, fun i g r h1 h2 => ?_⟩
  have h3 := h.2 i g r h1 h2
  refine (hg.block g (blk_lt h3) fun e => ?_).trans h3
  rcases ho.2 with ⟨rfl, _⟩ | ⟨g', cap, cur, rfl, _, hh, _⟩
  · cases e
  · simp only [Value.ownBlock, Option.some.injEq] at e
    subst e
    rw [h3] at hh
    cases hh
theorem Facs.below {w w1 : World} {gs : List Nat} {l : List UInt8} (h : Facs w gs l) (hb : Below w.heap.size w w1) : Facs w1 gs l :=
  ⟨h.1, fun i g r h1 h2 => blk_below (h.2 i g r h1 h2) hb (blk_lt (h.2 i g r h1 h2))⟩
theorem Facs.snoc {w : World} {gs : List Nat} {l : List UInt8} {g : Nat} {r : UInt8} (h : Facs w gs l) (hg : w.heap[g]? = some (.cells #[B 1, B r] 5 (0, 0))) : Facs w (gs ++ [g]) (l ++ [r]) := by
  refine ⟨by simp [h.1], fun i g' r' h1 h2 => ?_⟩
  have hl := h.1
  by_cases hi : i < gs.length
  · rw [List.getElem?_append_left hi] at h1
    rw [List.getElem?_append_left (by omega)] at h2
    exact h.2 i g' r' h1 h2
  · have e : i = gs.length := by have := (List.getElem?_eq_some_iff.1 h1).1; simp at this; omega
    subst e
    rw [List.getElem?_append_right (Nat.le_refl _), Nat.sub_self] at h1
    rw [hl, List.getElem?_append_right (Nat.le_refl _), Nat.sub_self] at h2
    cases h1; cases h2; exact hg
theorem lens_facs (l : List UInt8) : lens (pfacs l) = 2 * l.length := by
  induction l with
  | nil => rfl
  | cons a l ih => simp only [pfacs, lens, List.map_cons, List.sum_cons] at *; simp only [ih, List.length_cons, List.length_nil]; omega
set_option maxRecDepth 100000 in
set_option maxHeartbeats 1000000 in
theorem roots_any (p : Nat) (A : Option Addr) (n c : Nat) (l : List UInt8) (w : World) (hf : FieldAt w p) (hn : n ≤ 70368744177) (hl : Rd B w A n l) :
    Calls Try.prog 80 #[.pointer (some ⟨p, 0, none⟩), .slice A n c] w (RetB w (proots l)) := by
  have HL := As.mk hl; clear hl
  have HF := As.mk hf; clear hf
  go_enter Try.func80, Try.ntmps80
  go_wp2_with fail
  go_loopw [5, 10] (fun o i wr => ∃ (k : Nat) (A' : Option Addr) (c' : Nat) (gs : List Nat), k ≤ n ∧ i = .int .i64 k ∧ o = .slice A' k c' ∧ wr.ownsRow w.heap.size 39 1 (.slice A' k c') k (gs.map sl2) ∧ (A' = none → c' = 0) ∧ Facs wr gs (l.take k) ∧ Below w.heap.size w wr) (fun _ i _ => n - (intOf i).toNat)
  case atStart => exact ⟨0, none, 0, [], by omega, rfl, rfl, ownV_nil _ _ _ _, fun _ => rfl, ⟨by simp, fun i g r h => by simp at h⟩, Below.refl _ _⟩
  case round =>
    obtain ⟨k, A', c', gs, hk, rfl, rfl, hown, hA, hfc, hbl⟩ := hrel
    have HOW := As.mk hown; clear hown
    have HA := As.mk hA; clear hA
    have HFC := As.mk hfc; clear hfc
    have HBL := As.mk hbl; clear hbl
    by_cases hlt : k < n
    · obtain ⟨ad, rfl, r, hy, hc⟩ := (HL.out.below HBL.out).at_ k hlt
      have HY := As.mk hy
      have HT : As (l.take (k + 1) = l.take k ++ [r]) := ⟨by rw [List.take_add_one, hy]; rfl⟩
      clear hy
      go_wp2_with (first | ((with_reducible show wpList _ _ _ ({ dst := some 16, op := _, type := _, pos := _, after := _, guard := _ } :: _) _ _); refine lit_event 5 2 #[.int .u8 1, B r] rfl (by go_simp) ?_; intro g1 v1 hg1 hgl hb1) | ((with_reducible show wpList _ _ _ ({ dst := some 17, op := _, type := _, pos := _, after := _, guard := _ } :: _) _ _); refine lit_event 39 1 #[sl2 g1] rfl (by go_simp; rfl) ?_; intro g2 v2 hg2 _ hb2) | (at_builtin; refine append_event w w.heap.size 152 39 (.slice none 0 0) 1 24 _ _ rfl rfl Try.underlying152 info_bs rfl (by decide) _ k (gs.map sl2) (some ⟨g2, 0, none⟩) 1 1 [sl2 g1] rfl rfl (fun h => by cases h) (ownV_below (ownV_below HOW.out hb1.out) hb2.out) (rdv_blk hg2.out (by simp) (by omega)) (by simp [sl2, Value.oneCell']) (below_then (below_then HBL.out HBL.out.size hb1.out) (Nat.le_trans HBL.out.size hb1.out.size) hb2.out) (Nat.le_trans (Nat.le_trans HBL.out.size hb1.out.size) hb2.out.size) (by omega) (by decide) (k + 1) rfl ((gs ++ [g1]).map sl2) (by simp) ?_; intro A3 c3 w3 hown3 hA3 _ hb3 hg3 _))
      go_roundw
      case rel => exact ⟨k + 1, _, _, gs ++ [g1], by omega, by go_num, rfl, hown3.out, hA3.out, by rw [HT.out]; exact (((HFC.out.below hb1.out).snoc hg1.out).below hb2.out).grown (ownV_below (ownV_below HOW.out hb1.out) hb2.out) hg3.out, hb3.out⟩
      case measure => simp [intOf]; omega
    · have hn2 := HL.out.len
      have e : k = n := by omega
      have HFC2 : As (Facs wr gs l) := ⟨by have := HFC.out; rwa [e, ← hn2, List.take_length] at this⟩
      have HN : As (1 + lens (pfacs l) ≤ 70368744177664) := ⟨by rw [lens_facs]; omega⟩
      clear HFC hn2
      subst e
      go_wp2_with (go_at_call 135; (refine (mulL_any p _ _ _ (pfacs l) _ (HF.out.below HBL.out) (by omega) HN.out (HFC2.out.rdl (by obtain ⟨A4, c4, e4, h4⟩ := ownV_rd HOW.out; injection e4 with e5 e6 e7; subst e5; exact h4))).mono ?_); rintro e w1 ⟨A3, m3, c3, rfl, hown3, hA3, hC3, hb3⟩; have HO3 := As.mk hown3; have HA3 := As.mk hA3; have HC3 := As.mk hC3; have HB3 := As.mk hb3; clear hown3 hA3 hC3 hb3)
      go_ret
      exact ⟨_, _, _, rfl, HO3.out.less HBL.out.size, HA3.out, HC3.out, below_then HBL.out HBL.out.size HB3.out⟩
end Go.Proofs.Ytdcjionaedcfoaa.Poly
