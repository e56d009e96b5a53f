/- Walks of layer 7 (solve): by. -/
import Derived.Test.YtdcjionaedcfoaaSolve11
set_option linter.unusedVariables false
set_option linter.unusedSimpArgs false
namespace Go.Proofs.Ytdcjionaedcfoaa.Solve
open Go.RowKit Go.Proofs.Ytdcjionaedcfoaa.L Go.Proofs.Ytdcjionaedcfoaa.Gf Go.Proofs.Ytdcjionaedcfoaa.Poly Go.Proofs.Ytdcjionaedcfoaa.Rs Go.Proofs.Ytdcjionaedcfoaa.Range

def eset (er : List Int) : List Nat := (Lib.compact (zsort er)).map Int.toNat
abbrev Way := List UInt8 → Nat → Nat → List UInt8 → Int × List UInt8
def SRes (v p n pp m4 : Nat) (V3 V4 : Value) (r : Int × List UInt8) (w : World) (e : Ending) (w' : World) : Prop :=
  e = .returned (I r.1) ∧ LocAt w' v p n pp V3 V4 r.2 ∧ Below v w w'
/-- A way to search for the places. -/
def SearchFn (g : Nat) (F : Way) : Prop :=
  (∀ args w, (callFunc g args).run Try.prog w = .ok (.enter g args) w) ∧ (∀ s m pp loc, m ≤ pp → pp ≤ 64 → loc.length = m + 1 → (F s m pp loc).2.length ≤ 1000) ∧
  ∀ (v p n pp : Nat) (A3 A4 : Option Addr) (m3 c3 m4 c4 : Nat) (s loc0 : List UInt8) (w : World), LocAt w v p n pp (.slice A3 m3 c3) (.slice A4 m4 c4) loc0 → p < v → pp ≤ 64 → m4 ≤ pp → m3 ≤ c3 → s.length = pp → Rd B w A3 m3 s → (∀ ad, A3 = some ad → ad.block < v) → loc0.length = m4 + 1 →
    Calls Try.prog g #[.pointer (some ⟨v, 0, none⟩)] w (SRes v p n pp m4 (.slice A3 m3 c3) (.slice A4 m4 c4) (F s m4 pp loc0) w)
def pmendall (F : Way) (n k : Nat) (word : List UInt8) (er : List Int) : Int × List UInt8 × List Nat :=
  if er.any (outB n) = true then (1, [], [])
  else if n - k < (eset er).length then (8, [], [])
  else if rightB (n - k) word = true then (0, word, [])
  else match pmend n (n - k) (eset er) (syn (n - k) word) (F (syn (n - k) word) (eset er).length (n - k) (ploc n (eset er))).2 word (F (syn (n - k) word) (eset er).length (n - k) (ploc n (eset er))).1 with
    | none => (8, [], [])
    | some out => if rightB (n - k) out = true then (0, out, punlikes word out) else (8, [], [])
def RetX (w : World) (r : Int × List UInt8 × List Nat) (e : Ending) (w' : World) : Prop :=
  Below w.heap.size w w' ∧ ∃ A m c A2 m2 c2, e = .returned (.tuple #[.slice A m c, .slice A2 m2 c2, I r.1]) ∧ L.Own B 5 w' w.heap.size (.slice A m c) r.2.1 ∧ L.Own N 3 w' w.heap.size (.slice A2 m2 c2) r.2.2 ∧ (A = none → c = 0) ∧ m ≤ c
theorem retX_none (w w' : World) (k : Int) (r : Int × List UInt8 × List Nat) (hb : Below w.heap.size w w') (hr : r = (k, [], [])) : RetX w r (.returned (.tuple #[.slice none 0 0, .slice none 0 0, I k])) w' := by
  subst hr
  exact ⟨hb, none, 0, 0, none, 0, 0, rfl, L.Own.nil _ _ _ _, L.Own.nil _ _ _ _, fun _ => rfl, Nat.le_refl _⟩
/-- The places, as they came in. -/
theorem ints_of {w : World} {A : Option Addr} {m c : Nat} {er : List Int} (hl : Rd I w A m er) (N0 : Nat) (hN : w.heap.size ≤ N0) (W : World) (hb : Below w.heap.size w W) : Ints N0 W (.slice A m c) er := by
  have hlen := hl.len
  rcases Nat.eq_zero_or_pos m with h0 | h0
  · subst h0
    exact .inl ⟨List.eq_nil_of_length_eq_zero hlen, A, c, rfl⟩
  · right
    obtain ⟨ad, rfl, x, hx, hc⟩ := hl.at_ 0 h0
    obtain ⟨b, off, sp⟩ := ad
    have hsp : sp = none := by
      cases sp with
      | none => rfl
      | some s => exfalso; simp [Addr.add, World.cell?] at hc; split at hc <;> simp at hc
    subst hsp
    have hlt := World.block_lt_of_cell? _ _ hc
    refine ⟨b, off, c, by rw [hlen], by simp [Addr.add] at hlt; omega, fun j hj => ?_⟩
    obtain ⟨ad, e, x, hx, hc⟩ := (hl.below hb).at_ j (by omega)
    cases e
    rw [hx]
    unfold Addr.add at hc
    split at hc <;> simp_all
def fin (word : List UInt8) (m : Nat) : Option (List UInt8) → Int × List UInt8 × List Nat
  | none => (8, [], [])
  | some out => if rightB m out = true then (0, out, punlikes word out) else (8, [], [])
theorem codeAt_under {w w' : World} {c p n k Bd : Nat} {A : Option Addr} {m cc : Nat} (h : CodeAt w c p n k A m cc) (hc : c < Bd) (hp : p < Bd) (hA : ∀ ad, A = some ad → m ≠ 0 → ad.block < Bd) (hb : Below Bd w w') : CodeAt w' c p n k A m cc :=
  have q {i : Nat} {v : Value} (hh : w.cell? ⟨c, i, none⟩ = some v) : w'.cell? ⟨c, i, none⟩ = some v := (hb.cell (p := ⟨c, i, none⟩) hc).trans hh
  ⟨q h.h0, q h.h1, q h.h2, q h.h3, ⟨h.gen.1, by
    by_cases h0 : m = 0
    · subst h0
      have := h.gen.2.len
      have : genOf (n - k) = [] := List.eq_nil_of_length_eq_zero this
      rw [this]; exact Rd.nil _ _ _
    · exact Rd.under h.gen.2 (fun ad e => hA ad e h0) hb⟩, FieldAt.under h.field hp hb, h.kn⟩
theorem syn_len (m : Nat) (word : List UInt8) : (syn m word).length = m := by simp [syn]
theorem ploc_len (n : Nat) (er : List Nat) : (ploc n er).length = er.length + 1 := by rw [ploc, plocF_len]; simp; omega
theorem mendF_len (n : Nat) (om der : List UInt8) : ∀ (l : List Nat) (w out : List UInt8), mendF n om der l w = some out → out.length = w.length
  | [], w, out, h => by rw [mendF] at h; cases h; rfl
  | i :: l, w, out, h => by
    rw [mendF] at h
    split at h
    · cases h
    · have := mendF_len n om der l _ _ h; simpa using this
theorem pmend_len {n pp : Nat} {er : List Nat} {s loc word : List UInt8} {most : Int} {r : Option (List UInt8)} (h : pmend n pp er s loc word most = r) : ∀ out, r = some out → out.length = word.length := by
  rintro out rfl
  unfold pmend at h
  split at h
  · cases h
  · split at h
    · cases h
    · exact mendF_len _ _ _ _ _ _ h
theorem mem_compact {zs : List Int} {i : Int} (h : i ∈ Lib.compact zs) : i ∈ zs := by
  unfold Lib.compact Lib.compactUpTo at h
  obtain ⟨j, hj, rfl⟩ := List.mem_map.1 h
  have hj' := (List.mem_filter.1 hj).1
  simp at hj'
  simp [hj']
theorem eset_in {er : List Int} {n : Nat} (h : er.any (outB n) = false) {i : Int} (hi : i ∈ Lib.compact (zsort er)) : 0 ≤ i ∧ i < n := by
  have h1 : i ∈ er := List.mem_mergeSort.1 (mem_compact hi)
  have h2 := (List.any_eq_false.1 h) i h1
  simp [outB] at h2
  omega
theorem eset_lt {er : List Int} {n : Nat} (h : er.any (outB n) = false) : ∀ i ∈ eset er, i < n := fun i hi => by
  obtain ⟨j, hj, rfl⟩ := List.mem_map.1 hi
  have := eset_in h hj
  omega
theorem eset_nn {er : List Int} {n : Nat} (h : er.any (outB n) = false) : ∀ i ∈ Lib.compact (zsort er), 0 ≤ i := fun i hi => (eset_in h hi).1
set_option maxRecDepth 100000 in
set_option maxHeartbeats 4000000 in
theorem by_all (c p n k : Nat) (A : Option Addr) (m cc : Nat) (A2 A3 : Option Addr) (c2 m3 c3 g : Nat) (F : Way) (word : List UInt8) (er : List Int) (w : World) (hc : CodeAt w c p n k A m cc) (hl : Rd B w A2 n word) (hl3 : Rd I w A3 m3 er) (hm3 : m3 ≤ 1000000) (hg : SearchFn g F) :
    Calls Try.prog 111 #[.pointer (some ⟨c, 0, none⟩), .slice A2 n c2, .slice A3 m3 c3, .func (.func g) #[] #[]] w (RetX w (pmendall F n k word er)) := by
  have hkn := hc.kn
  have hp : p < w.heap.size := World.block_lt_of_cell? _ _ (hc.field.exp 0 (by omega))
  have HA2 : As (∀ ad, A2 = some ad → ad.block < w.heap.size) := ⟨fun ad h => by
    obtain ⟨ad', e, x, hx, hc'⟩ := hl.at_ 0 (by omega)
    rw [h] at e; cases e
    have := World.block_lt_of_cell? _ _ hc'
    unfold Addr.add at this; simpa using this⟩
  have HC := As.mk hc; clear hc
  have HL := As.mk hl; clear hl
  have HL3 := As.mk hl3; clear hl3
  have HG := As.mk hg; clear hg
  have hgate := HG.out.1
  go_enter Try.func111, Try.ntmps111
  go_wp2_with fail
  refine (syn_any c p n k A m cc A2 c2 word _ HC.out HL.out).mono ?_
  rintro e w1 ⟨A4, m4, c4, rfl, hown4, hA4, hC4, hb4⟩
  have HO4 := As.mk hown4
  have HC4 := As.mk hC4
  have HB4 := As.mk hb4
  clear hown4 hA4 hC4 hb4
  go_wp2_with fail
  refine (size_any c p n k A m cc _ (HC.out.below HB4.out)).mono ?_
  rintro e w2 ⟨rfl, hb2⟩
  have HB2 : As (Below w.heap.size w w2) := ⟨below_then HB4.out HB4.out.size hb2⟩
  have HO4' : As (L.Own B 5 w2 w.heap.size (.slice A4 m4 c4) (syn (n - k) word)) := ⟨HO4.out.below hb2⟩
  clear hb2 HO4 HB4
  go_wp2_with ((with_reducible show wpList _ _ _ ({ dst := some 13, op := _, type := _, pos := _, after := _, guard := _ } :: _) _ _); refine alloc_event 3 #[.int .i64 0] rfl (by go_simp) ?_; intro w3 hbk hb3; have HBK := As.mk hbk; have HB3 := As.mk hb3; clear hbk hb3; have hcc := blk_cell HBK.out 0; have hff := blk_free HBK.out 0; simp at hcc)
  obtain ⟨w4, hw4⟩ : ∃ w4, w4 = w3.setCell ⟨w2.heap.size, 0, none⟩ (.int .i64 (n : Int)) := ⟨_, rfl⟩
  rw [← hw4]
  have HBK4 : As (w4.heap[w2.heap.size]? = some (.cells #[I n] 3 (0, 0))) := ⟨by rw [hw4]; exact blk_set HBK.out 0 _⟩
  have HB4 : As (Below w.heap.size w w4) := ⟨by rw [hw4]; exact (below_then HB2.out HB2.out.size HB3.out).setCell (p := ⟨w2.heap.size, 0, none⟩) HB2.out.size _⟩
  have HB24 : As (Below w2.heap.size w2 w4) := ⟨by rw [hw4]; exact HB3.out.setCell (p := ⟨w2.heap.size, 0, none⟩) (Nat.le_refl _) _⟩
  have HO4 : As (L.Own B 5 w4 w.heap.size (.slice A4 m4 c4) (syn (n - k) word)) := ⟨HO4'.out.below HB24.out⟩
  have hcell : w4.cell? ⟨w2.heap.size, 0, none⟩ = some (I n) := by have := blk_cell HBK4.out 0; simpa using this
  clear HBK HB3 hcc hff hw4 HO4' HB24
  have HCELL := As.mk hcell
  have HX : As (pmendall F n k word er = pmendall F n k word er) := ⟨rfl⟩
  by_cases hany : er.any (outB n) = true
  · have HANY := As.mk hany
    have HR : As (pmendall F n k word er = (1, [], [])) := ⟨by unfold pmendall; rw [if_pos hany]⟩
    clear hany hcell
    refine (contains_out w2.heap.size n A3 m3 c3 er w4 HCELL.out (HL3.out.below HB4.out)).mono ?_
    rw [HANY.out]
    rintro e w5 ⟨rfl, rfl⟩
    go_wp2_with fail
    go_ret3
    exact retX_none _ _ _ _ HB4.out HR.out
  · have hany' : er.any (outB n) = false := by simpa using hany
    have HANY := As.mk hany'
    have HR0 : As (pmendall F n k word er = if n - k < (eset er).length then (8, [], []) else if rightB (n - k) word = true then (0, word, []) else fin word (n - k) (pmend n (n - k) (eset er) (syn (n - k) word) (F (syn (n - k) word) (eset er).length (n - k) (ploc n (eset er))).2 word (F (syn (n - k) word) (eset er).length (n - k) (ploc n (eset er))).1)) := ⟨by
      unfold pmendall fin; rw [if_neg hany]⟩
    have HIN : As (∀ i ∈ eset er, i < n) := ⟨eset_lt hany'⟩
    have HNN : As (∀ i ∈ Lib.compact (zsort er), 0 ≤ i) := ⟨eset_nn hany'⟩
    clear hany hany' hcell
    refine (contains_out w2.heap.size n A3 m3 c3 er w4 HCELL.out (HL3.out.below HB4.out)).mono ?_
    rw [HANY.out]
    rintro e w5 ⟨rfl, rfl⟩
    clear HANY
    go_wp2_with fail
    refine (values_any A3 m3 c3 w4).mono ?_
    rintro e w5 ⟨rfl, hw5⟩
    have HB5 : As (Below w4.heap.size w4 w5) := ⟨hw5 ▸ alloc_below _ _⟩
    have HC5 : As (w5.cell? ⟨w4.heap.size, 0, none⟩ = some (.slice A3 m3 c3)) := ⟨by rw [hw5]; exact blk_cell (blk_new w4 (.cells #[.slice A3 m3 c3] 45)) 0⟩
    clear hw5
    have hel := HL3.out.len
    have hel' : er.length ≤ 1000000 := by omega
    have HELN := As.mk hel'
    clear hel hel'
    go_wp2_with fail
    refine (sorted_any w4.heap.size (.slice A3 m3 c3) er HELN.out w5 HC5.out (ints_of HL3.out _ (Nat.le_trans HB4.out.size HB5.out.size) w5 (below_then HB4.out HB4.out.size HB5.out))).mono ?_
    rintro e w6 ⟨V6, rfl, hrow6, hb6⟩
    have HB6 : As (Below w4.heap.size w4 w6) := ⟨below_then HB5.out HB5.out.size hb6⟩
    have HROW6 := As.mk hrow6
    have HSZ5 : As (w5.heap.size ≤ w6.heap.size) := ⟨hb6.size⟩
    clear hrow6 hb6
    go_wp2_with fail
    have HZL : As (er.length = (zsort er).length) := ⟨(List.length_mergeSort _).symm⟩
    refine (compact_own w5.heap.size er.length V6 (zsort er) w6 HSZ5.out HZL.out HROW6.out).mono ?_
    rintro e w7 ⟨A7, c7, rfl, hrow7, hb7⟩
    have HB7 : As (Below w4.heap.size w4 w7) := ⟨HB6.out.trans (hb7.mono HB5.out.size)⟩
    have HROW7 := As.mk hrow7
    have HES : As ((eset er).length = (Lib.compact (zsort er)).length) := ⟨by simp [eset]⟩
    have HRD7 : As (Rd N w7 A7 (Lib.compact (zsort er)).length (eset er)) := ⟨by
      obtain ⟨A', c', e1, hr⟩ := ownV_rd hrow7
      injection e1 with e2 e3 e4
      subst e2
      exact rd_nat hr HNN.out⟩
    have HA7 : As (∀ ad, A7 = some ad → ad.block < w7.heap.size) := ⟨fun ad h => by
      have := (World.ownsRow.lt hrow7 ad.block (by rw [h]; rfl)).2
      exact this⟩
    have hcell : w7.cell? ⟨w2.heap.size, 0, none⟩ = some (I n) := (HB7.out.cell (p := ⟨w2.heap.size, 0, none⟩) (World.block_lt_of_cell? _ _ HCELL.out)).trans HCELL.out
    have HCELL7 := As.mk hcell
    clear hrow7 hb7 HB5 HC5 HELN HB6 HROW6 HSZ5 HZL HX HCELL
    generalize hL : (Lib.compact (zsort er)).length = ll at *
    have HL7 := As.mk hL
    clear hL
    have q1 : ((n : Int) - k) = ((n - k : Nat) : Int) := by omega
    have Q1 := As.mk q1
    by_cases hmore : n - k < ll
    · have e1 : decide ((n : Int) - k < (ll : Int)) = true := decide_eq_true (by omega)
      have HR : As (pmendall F n k word er = (8, [], [])) := ⟨by rw [HR0.out, if_pos (by rw [HES.out]; exact hmore)]⟩
      clear q1 hmore
      go_wp2_with fail
      go_ret3
      exact retX_none _ _ _ _ (below_then HB4.out HB4.out.size HB7.out) HR.out
    · have e1 : decide ((n : Int) - k < (ll : Int)) = false := decide_eq_false (by omega)
      have HMO := As.mk hmore
      clear q1 hmore
      go_wp2_with fail
      have HB07 : As (Below w.heap.size w w7) := ⟨below_then HB4.out HB4.out.size HB7.out⟩
      have HL27 : As (Rd B w7 A2 n word) := ⟨HL.out.below HB07.out⟩
      have HC7 : As (CodeAt w7 c p n k A m cc) := ⟨HC.out.below HB07.out⟩
      have HO7 : As (L.Own B 5 w7 w.heap.size (.slice A4 m4 c4) (syn (n - k) word)) := ⟨HO4.out.below HB7.out⟩
      clear hcell e1 HB4 HB7 HO4 HBK4 HB2 HL HROW7
      by_cases hright : rightB (n - k) word = true
      · have HRI := As.mk hright
        have HR : As (pmendall F n k word er = (0, word, [])) := ⟨by rw [HR0.out, if_neg (by rw [HES.out]; exact HMO.out), if_pos hright]⟩
        clear hright
        refine (right_any c p n k A m cc A2 c2 word w7 HC7.out HL27.out).mono ?_
        rw [HRI.out]
        rintro e w8 ⟨rfl, hb8⟩
        have HL28 : As (Rd B w8 A2 n word) := ⟨HL27.out.below hb8⟩
        have HB08 : As (Below w.heap.size w w8) := ⟨below_then HB07.out HB07.out.size hb8⟩
        clear hb8
        go_wp2_with fail
        refine (clone_any A2 n c2 word w8 (by omega) HL28.out).mono ?_
        rintro e w9 ⟨A9, n9, c9, rfl, hown9, hA9, hC9, hb9⟩
        have HO9 := As.mk hown9
        have HA9 := As.mk hA9
        have HC9 := As.mk hC9
        have HB9 := As.mk hb9
        clear hown9 hA9 hC9 hb9
        go_wp2_with fail
        go_ret3
        exact ⟨below_then HB08.out HB08.out.size HB9.out, A9, n9, c9, none, 0, 0, by rw [HR.out]; rfl, by rw [HR.out]; exact HO9.out.less HB08.out.size, by rw [HR.out]; exact L.Own.nil _ _ _ _, HA9.out, HC9.out⟩
      · have hright' : rightB (n - k) word = false := by simpa using hright
        have HRI := As.mk hright'
        have HR : As (pmendall F n k word er = fin word (n - k) (pmend n (n - k) (eset er) (syn (n - k) word) (F (syn (n - k) word) ll (n - k) (ploc n (eset er))).2 word (F (syn (n - k) word) ll (n - k) (ploc n (eset er))).1)) := ⟨by rw [HR0.out, HES.out, if_neg HMO.out, if_neg hright]⟩
        clear hright hright' HR0
        refine (right_any c p n k A m cc A2 c2 word w7 HC7.out HL27.out).mono ?_
        rw [HRI.out]
        rintro e w8 ⟨rfl, hb8⟩
        have HL28 : As (Rd B w8 A2 n word) := ⟨HL27.out.below hb8⟩
        have HC8 : As (CodeAt w8 c p n k A m cc) := ⟨HC7.out.below hb8⟩
        have HO8 : As (L.Own B 5 w8 w.heap.size (.slice A4 m4 c4) (syn (n - k) word)) := ⟨HO7.out.below hb8⟩
        have HRD8 : As (Rd N w8 A7 ll (eset er)) := ⟨HRD7.out.below hb8⟩
        have HA8 : As (∀ ad, A7 = some ad → ad.block < w8.heap.size) := ⟨fun ad h => Nat.lt_of_lt_of_le (HA7.out ad h) hb8.size⟩
        have HB08 : As (Below w.heap.size w w8) := ⟨below_then HB07.out HB07.out.size hb8⟩
        have HCELL8 : As (w8.cell? ⟨w2.heap.size, 0, none⟩ = some (I n)) := ⟨(hb8.cell (p := ⟨w2.heap.size, 0, none⟩) (World.block_lt_of_cell? _ _ HCELL7.out)).trans HCELL7.out⟩
        clear hb8 HL27 HC7 HO7 HRD7 HA7 HB07 HCELL7
        go_wp2_with fail
        have q1 : IntKind.i64.wrap ((n : Int) - k) = ((n - k : Nat) : Int) := by rw [IntWalk.i64_in _ (by omega)]; omega
        refine regionT [0, 2, 3, 4, 5, 6, 7, 1, 8, 9, 10] mixed (by kernel_rfl) (by decide) (by kernel_rfl) ?_
        intro wd hd hds
        have HL2D : As (Rd B wd A2 n word) := ⟨HL28.out.below (hd.out _)⟩
        have HCD : As (CodeAt wd c p n k A m cc) := ⟨HC8.out.below (hd.out _)⟩
        have HOD : As (L.Own B 5 wd w.heap.size (.slice A4 m4 c4) (syn (n - k) word)) := ⟨HO8.out.below (hd.out _)⟩
        have HRDD : As (Rd N wd A7 ll (eset er)) := ⟨HRD8.out.below (hd.out _)⟩
        have HAD : As (∀ ad, A7 = some ad → ad.block < wd.heap.size) := ⟨fun ad h => Nat.lt_of_lt_of_le (HA8.out ad h) (hd.out w8.heap.size).size⟩
        have HB0D : As (Below w.heap.size w wd) := ⟨below_then HB08.out HB08.out.size (hd.out _)⟩
        have HCELLD : As (wd.cell? ⟨w2.heap.size, 0, none⟩ = some (I n)) := ⟨((hd.out w8.heap.size).cell (p := ⟨w2.heap.size, 0, none⟩) (World.block_lt_of_cell? _ _ HCELL8.out)).trans HCELL8.out⟩
        clear hd hds HL28 HC8 HO8 HRD8 HA8 HB08 HCELL8
        iterate 1 (refine wpT_float rfl rfl rfl (fun w' => by go_simp; rfl) ?_; try simp only [Act.put, List.getElem_toArray, List.getElem_cons_zero, List.getElem_cons_succ, List.setIfInBounds_toArray, List.set_cons_zero, List.set_cons_succ])
        (refine wpT_load rfl rfl rfl rfl (fun w' hw' => by have hq : w'.cell? ⟨w2.heap.size, 0, none⟩ = some (I n) := (hw'.cell (p := ⟨w2.heap.size, 0, none⟩) (World.block_lt_of_cell? _ _ HCELLD.out)).trans HCELLD.out; go_simp; rfl) ?_; try simp only [Act.put, List.getElem_toArray, List.getElem_cons_zero, List.getElem_cons_succ, List.setIfInBounds_toArray, List.set_cons_zero, List.set_cons_succ])
        (refine wpT_load rfl rfl rfl rfl (fun w' hw' => by have hq : w'.cell? ⟨w2.heap.size, 0, none⟩ = some (I n) := (hw'.cell (p := ⟨w2.heap.size, 0, none⟩) (World.block_lt_of_cell? _ _ HCELLD.out)).trans HCELLD.out; go_simp; rfl) ?_; try simp only [Act.put, List.getElem_toArray, List.getElem_cons_zero, List.getElem_cons_succ, List.setIfInBounds_toArray, List.set_cons_zero, List.set_cons_succ])
        iterate 4 (refine wpT_float rfl rfl rfl (fun w' => by go_simp; rfl) ?_; try simp only [Act.put, List.getElem_toArray, List.getElem_cons_zero, List.getElem_cons_succ, List.setIfInBounds_toArray, List.set_cons_zero, List.set_cons_succ])
        refine wpT_op rfl rfl rfl ?_
        go_simp
        refine (over_any c p n k A m cc wd HCD.out).mono ?_
        rintro e w9 ⟨rfl, rfl⟩
        refine ⟨Below.refl _ _, ?_⟩
        refine wpT_op rfl rfl rfl ?_
        go_simp
        refine ⟨Below.refl _ _, ?_⟩
        refine wpT_op rfl rfl rfl ?_
        go_simp
        refine ⟨alloc_below _ _, ?_⟩
        generalize hw9 : wd.alloc (.cells #[.pointer (some ⟨p, 0, none⟩), I n, .int .i64 ((n - k : Nat) : Int), .slice A4 m4 c4, .slice A7 ll c7, .slice none 0 0] 245) = w9
        have HBK9 : As (w9.heap[wd.heap.size]? = some (.cells #[.pointer (some ⟨p, 0, none⟩), I n, .int .i64 ((n - k : Nat) : Int), .slice A4 m4 c4, .slice A7 ll c7, .slice none 0 0] 245 (0, 0))) := ⟨hw9 ▸ blk_new _ _⟩
        have HBD9 : As (Below wd.heap.size wd w9) := ⟨hw9 ▸ alloc_below _ _⟩
        clear hw9
        iterate 1 (refine wpT_float rfl rfl rfl (fun w' => by go_simp; rfl) ?_; try simp only [Act.put, List.getElem_toArray, List.getElem_cons_zero, List.getElem_cons_succ, List.setIfInBounds_toArray, List.set_cons_zero, List.set_cons_succ])
        refine wpT_done (NoPanic.normal ?_)
        clear q1
        have hpd : p < wd.heap.size := Nat.lt_of_lt_of_le hp HB0D.out.size
        generalize hv : wd.heap.size = v at *
        have HV := As.mk hv
        have hwv : w.heap.size ≤ v := by rw [← hv]; exact HB0D.out.size
        clear hv
        have HS9 : As (SolAt w9 v p n (n - k) (.slice A4 m4 c4) (.slice A7 ll c7) (.slice none 0 0)) := ⟨by
          have hcc (i : Nat) := blk_cell HBK9.out i
          exact ⟨hcc 0, hcc 1, hcc 2, hcc 3, hcc 4, hcc 5, blk_free HBK9.out 5, HCD.out.field.below (HV.out ▸ HBD9.out)⟩⟩
        have HR9 : As (Rd N w9 A7 ll (eset er)) := ⟨HRDD.out.below (HV.out ▸ HBD9.out)⟩
        have HC9 : As (CodeAt w9 c p n k A m cc) := ⟨HCD.out.below (HV.out ▸ HBD9.out)⟩
        have HO9 : As (L.Own B 5 w9 w.heap.size (.slice A4 m4 c4) (syn (n - k) word)) := ⟨HOD.out.below (HV.out ▸ HBD9.out)⟩
        have HL29 : As (Rd B w9 A2 n word) := ⟨HL2D.out.below (HV.out ▸ HBD9.out)⟩
        have HB09 : As (Below w.heap.size w w9) := ⟨below_then HB0D.out HB0D.out.size (HV.out ▸ HBD9.out)⟩
        have HA2v : As (∀ ad, A2 = some ad → ad.block < v) := ⟨fun ad h => Nat.lt_of_lt_of_le (HA2.out ad h) hwv⟩
        have HA4v : As (∀ ad, A4 = some ad → ad.block < v) := ⟨fun ad h => by
          have := (World.ownsRow.lt HOD.out ad.block (by rw [h]; rfl)).2
          rw [HV.out] at this; exact this⟩
        have HCV : As (c < v) := ⟨by have := World.block_lt_of_cell? _ _ HCD.out.h0; rw [HV.out] at this; exact this⟩
        have HAGV : As (∀ ad, A = some ad → m ≠ 0 → ad.block < v) := ⟨fun ad h h0 => by
          obtain ⟨ad', e, x, hx, hc⟩ := HCD.out.gen.2.at_ 0 (by omega)
          rw [h] at e; cases e
          have := World.block_lt_of_cell? _ _ hc
          rw [HV.out] at this
          unfold Addr.add at this; simpa using this⟩
        clear HBD9 HBK9 HL2D HCD HOD HRDD HB0D HCELLD
        go_wp2_with fail
        have hnk : ll ≤ n - k := by have := HMO.out; omega
        refine (erasures_any v p n (n - k) (.slice A4 m4 c4) (.slice none 0 0) A7 ll c7 (eset er) w9 HS9.out hpd (by omega) (by omega) HR9.out HAD.out HIN.out).mono ?_
        rintro e w10 ⟨rfl, hloc, hb10⟩
        have HLOC := As.mk hloc
        have HS10 : As (Rd B w10 A4 m4 (syn (n - k) word)) := ⟨Rd.under HO9.out.rd'.2 HA4v.out hb10⟩
        have HW10 : As (Rd B w10 A2 n word) := ⟨Rd.under HL29.out HA2v.out hb10⟩
        have HR10 : As (Rd N w10 A7 ll (eset er)) := ⟨Rd.under HR9.out HAD.out hb10⟩
        have HC10 : As (CodeAt w10 c p n k A m cc) := ⟨codeAt_under HC9.out HCV.out hpd HAGV.out hb10⟩
        have HB010 : As (Below w.heap.size w w10) := ⟨HB09.out.trans (hb10.mono hwv)⟩
        clear hloc hb10 HS9 HR9 HC9 HO9 HL29 HB09
        generalize hsy : syn (n - k) word = sy at *
        have HSY := As.mk hsy
        have hsl : sy.length = n - k := by rw [← hsy]; exact syn_len _ _
        have HSL := As.mk hsl
        clear hsy hsl
        generalize hpl : ploc n (eset er) = pl at *
        have hpll : pl.length = ll + 1 := by rw [← hpl, ploc_len, HES.out]
        have HPLL := As.mk hpll
        clear hpl hpll
        generalize hF : F sy ll (n - k) pl = fr at *
        have HF := As.mk hF
        have hfl : fr.2.length ≤ 1000 := by rw [← hF]; exact HG.out.2.1 sy ll (n - k) pl hnk (by omega) HPLL.out
        clear hF
        go_wp2_with fail
        have HCS := As.mk (HG.out.2.2 v p n (n - k) A4 A7 m4 c4 ll c7 sy pl w10 HLOC.out hpd (by omega) hnk HC4.out HSL.out HS10.out HA4v.out HPLL.out)
        rw [HF.out] at HCS
        refine HCS.out.mono ?_
        rintro e w11 ⟨rfl, hloc, hb11⟩
        have HLOC := As.mk hloc
        have HS11 : As (Rd B w11 A4 m4 sy) := ⟨Rd.under HS10.out HA4v.out hb11⟩
        have HW11 : As (Rd B w11 A2 n word) := ⟨Rd.under HW10.out HA2v.out hb11⟩
        have HR11 : As (Rd N w11 A7 ll (eset er)) := ⟨Rd.under HR10.out HAD.out hb11⟩
        have HC11 : As (CodeAt w11 c p n k A m cc) := ⟨codeAt_under HC10.out HCV.out hpd HAGV.out hb11⟩
        have HB011 : As (Below w.heap.size w w11) := ⟨HB010.out.trans (hb11.mono hwv)⟩
        clear hloc hb11 HS10 HR10 HC10 HW10 HB010 HCS
        go_wp2_with fail
        refine (mend_any v p n (n - k) A4 A7 A2 m4 c4 ll c7 n c2 (eset er) sy fr.2 word fr.1 w11 HLOC.out (by omega) (by omega) hfl (by omega) HS11.out HR11.out HW11.out rfl).mono ?_
        generalize hpm : pmend n (n - k) (eset er) sy fr.2 word fr.1 = pm at *
        have hwl := HW11.out.len
        have hpml := pmend_len hpm
        have HPML := As.mk hpml
        have HWL := As.mk hwl
        clear hpm hpml hwl
        cases pm with
        | none =>
          rintro e w12 ⟨hb12, rfl⟩
          have HB12 := As.mk hb12
          clear hb12
          have HRR : As (pmendall F n k word er = (8, [], [])) := ⟨HR.out⟩
          go_wp2_with fail
          go_ret3
          exact retX_none _ _ _ _ (below_then HB011.out HB011.out.size HB12.out) HRR.out
        | some out =>
          rintro e w12 ⟨hb12, A12, n12, c12, rfl, hown12, hA12, hC12⟩
          have hn12 : n12 = out.length := hown12.rd'.1
          have hol : n12 = n := by rw [hn12, HPML.out out rfl, HWL.out]
          subst hol
          have HO12 := As.mk hown12
          have HA12 := As.mk hA12
          have HC12 := As.mk hC12
          have HB012 : As (Below w.heap.size w w12) := ⟨below_then HB011.out HB011.out.size hb12⟩
          have HCO12 : As (CodeAt w12 c p n12 k A m cc) := ⟨HC11.out.below hb12⟩
          have HW12 : As (Rd B w12 A2 n12 word) := ⟨HW11.out.below hb12⟩
          have HL12 : As (Rd B w12 A12 n12 out) := ⟨hown12.rd'.2⟩
          have HLE12 : As (w.heap.size ≤ w11.heap.size) := ⟨HB011.out.size⟩
          clear hn12 hown12 hA12 hC12 hb12 HB011 HC11 HW11 HS11 HR11
          go_wp2_with fail
          by_cases hro : rightB (n12 - k) out = true
          · have HRO := As.mk hro
            have HRR : As (pmendall F n12 k word er = (0, out, punlikes word out)) := ⟨by rw [HR.out, fin, if_pos hro]⟩
            clear hro
            refine (right_any c p n12 k A m cc A12 c12 out w12 HCO12.out HL12.out).mono ?_
            rw [HRO.out]
            rintro e w13 ⟨rfl, hb13⟩
            have HB013 : As (Below w.heap.size w w13) := ⟨below_then HB012.out HB012.out.size hb13⟩
            have HW13 : As (Rd B w13 A2 n12 word) := ⟨HW12.out.below hb13⟩
            have HL13 : As (Rd B w13 A12 n12 out) := ⟨HL12.out.below hb13⟩
            have HO13 : As (L.Own B 5 w13 w.heap.size (.slice A12 n12 c12) out) := ⟨(HO12.out.less HLE12.out).below hb13⟩
            clear hb13 HW12 HL12 HO12 HB012
            go_wp2_with fail
            refine (unlikes_any A2 A12 n12 c2 n12 c12 word out w13 (by omega) (Nat.le_refl _) HW13.out HL13.out).mono ?_
            rintro e w14 ⟨A14, n14, c14, rfl, hown14, hA14, hC14, hb14⟩
            have HO14 := As.mk hown14
            have HB14 := As.mk hb14
            clear hown14 hA14 hC14 hb14
            go_wp2_with fail
            go_ret3
            exact ⟨below_then HB013.out HB013.out.size HB14.out, A12, n12, c12, A14, n14, c14, by rw [HRR.out]; rfl, by rw [HRR.out]; exact HO13.out.below HB14.out, by rw [HRR.out]; exact HO14.out.less HB013.out.size, HA12.out, HC12.out⟩
          · have hro' : rightB (n12 - k) out = false := by simpa using hro
            have HRO := As.mk hro'
            have HRR : As (pmendall F n12 k word er = (8, [], [])) := ⟨by rw [HR.out, fin, if_neg hro]⟩
            clear hro hro'
            refine (right_any c p n12 k A m cc A12 c12 out w12 HCO12.out HL12.out).mono ?_
            rw [HRO.out]
            rintro e w13 ⟨rfl, hb13⟩
            have HB013 : As (Below w.heap.size w w13) := ⟨below_then HB012.out HB012.out.size hb13⟩
            clear hb13
            go_wp2_with fail
            go_ret3
            exact retX_none _ _ _ _ HB013.out HRR.out
end Go.Proofs.Ytdcjionaedcfoaa.Solve
