/- The law of layer 7: SolveAgain. -/
import Derived.Test.YtdcjionaedcfoaaLawS1
import Derived.Test.YtdcjionaedcfoaaEset
import Derived.Test.YtdcjionaedcfoaaEnc
set_option linter.unusedVariables false
set_option linter.unusedSimpArgs false
namespace Go.Proofs.Ytdcjionaedcfoaa.LawS
open Go.RowKit Go.Proofs.Ytdcjionaedcfoaa.L Go.Proofs.Ytdcjionaedcfoaa.Gf Go.Proofs.Ytdcjionaedcfoaa.Poly Go.Proofs.Ytdcjionaedcfoaa.Rs Go.Proofs.Ytdcjionaedcfoaa.Solve Go.Proofs.Ytdcjionaedcfoaa.Ref Go.Proofs.Ytdcjionaedcfoaa.Range

/-! ### There -/
def thereB (n k : Int) : Bool := decide (1 ≤ k ∧ k < n ∧ n ≤ 255 ∧ n - k ≤ 64)
theorem there_any (n k : Int) (w : World) : Calls Try.prog 63 #[I n, I k] w fun e w' => e = .returned (.bool (thereB n k)) ∧ w = w' := by
  by_cases h1 : 1 ≤ k
  · have e1 : decide (1 ≤ k) = true := decide_eq_true h1
    by_cases h2 : k < n
    · have e2 : decide (k < n) = true := decide_eq_true h2
      by_cases h3 : n ≤ 255
      · have e3 : decide (n ≤ 255) = true := decide_eq_true h3
        by_cases h4 : n - k ≤ 64
        · have e4 : decide (n - k ≤ 64) = true := decide_eq_true h4
          have H : As (thereB n k = true) := ⟨decide_eq_true ⟨h1, h2, h3, h4⟩⟩
          go_enter Try.func63, Try.ntmps63
          go_wp2
          go_ret
          exact ⟨by rw [H.out]; rfl, rfl⟩
        · have e4 : decide (n - k ≤ 64) = false := decide_eq_false h4
          have H : As (thereB n k = false) := ⟨decide_eq_false fun h => h4 h.2.2.2⟩
          go_enter Try.func63, Try.ntmps63
          go_wp2
          go_ret
          exact ⟨by rw [H.out]; rfl, rfl⟩
      · have e3 : decide (n ≤ 255) = false := decide_eq_false h3
        have H : As (thereB n k = false) := ⟨decide_eq_false fun h => h3 h.2.2.1⟩
        clear h1 h2
        go_enter Try.func63, Try.ntmps63
        go_wp2
        go_ret
        exact ⟨by rw [H.out]; rfl, rfl⟩
    · have e2 : decide (k < n) = false := decide_eq_false h2
      have H : As (thereB n k = false) := ⟨decide_eq_false fun h => h2 h.2.1⟩
      go_enter Try.func63, Try.ntmps63
      go_wp2
      go_ret
      exact ⟨by rw [H.out]; rfl, rfl⟩
  · have e1 : decide (1 ≤ k) = false := decide_eq_false h1
    have H : As (thereB n k = false) := ⟨decide_eq_false fun h => h1 h.1⟩
    go_enter Try.func63, Try.ntmps63
    go_wp2
    go_ret
    exact ⟨by rw [H.out]; rfl, rfl⟩

/-! ### Mend, of whatever word -/
def pmendX (F : Solve.Way) (n k : Nat) (word : List UInt8) (er : List Int) : Int × List UInt8 × List Nat := if word.length = n then pmendall F n k word er else (1, [], [])
theorem mend_word (c p n k : Nat) (A : Option Addr) (m cc : Nat) (A2 A3 : Option Addr) (n2 c2 m3 c3 : Nat) (word : List UInt8) (er : List Int) (w : World) (hc : CodeAt w c p n k A m cc) (hl : Rd B w A2 n2 word) (hl3 : Rd I w A3 m3 er) (hm3 : m3 ≤ 1000000) :
    Calls Try.prog 60 #[.pointer (some ⟨c, 0, none⟩), .slice A2 n2 c2, .slice A3 m3 c3] w (RetX w (pmendX psearch n k word er)) := by
  by_cases hn : n2 = n
  · subst hn
    rw [pmendX, if_pos hl.len]
    exact mend_all c p n2 k A m cc A2 A3 c2 m3 c3 word er w hc hl hl3 hm3
  · rw [pmendX, if_neg (by rw [hl.len]; exact hn)]
    refine (mend_short c p n k A m cc A2 n2 c2 _ w hc hn).mono ?_
    rintro e w' ⟨rfl, hb⟩
    exact retX_none w w' 1 _ hb rfl

/-! ### Plain -/
def dbl : List Int → List Int
  | [] => []
  | x :: l => dbl l ++ [x, x]
theorem mem_dbl {i : Int} : ∀ {l : List Int}, i ∈ dbl l ↔ i ∈ l
  | [] => Iff.rfl
  | x :: l => by rw [dbl, List.mem_append, mem_dbl, List.mem_cons]; simp; exact Or.comm
theorem dbl_len : ∀ l : List Int, (dbl l).length = 2 * l.length
  | [] => rfl
  | x :: l => by rw [dbl, List.length_append, dbl_len]; simp; omega
theorem dbl_drop {l : List Int} {j : Nat} {x : Int} (h : l[j]? = some x) : dbl (l.drop j) = dbl (l.drop (j + 1)) ++ [x, x] := by
  rw [drop_at h, dbl]
theorem pmendX_set (F : Solve.Way) (n k : Nat) (word : List UInt8) {a b : List Int} (h : ∀ i, i ∈ a ↔ i ∈ b) : pmendX F n k word a = pmendX F n k word b := by
  have h1 : a.any (outB n) = b.any (outB n) := by
    rw [Bool.eq_iff_iff, List.any_eq_true, List.any_eq_true]
    exact ⟨fun ⟨x, hx, e⟩ => ⟨x, (h x).1 hx, e⟩, fun ⟨x, hx, e⟩ => ⟨x, (h x).2 hx, e⟩⟩
  have h2 : eset a = eset b := by
    show (iset a).map Int.toNat = (iset b).map Int.toNat
    rw [iset_congr h]
  unfold pmendX pmendall
  rw [h1, h2]
theorem pmendX_ok {F : Solve.Way} {n k : Nat} {word : List UInt8} {er : List Int} {x : List UInt8} {at_ : List Nat} (h : pmendX F n k word er = (0, x, at_)) :
    x.length = n ∧ rightB (n - k) x = true ∧ er.any (outB n) = false ∧ (eset er).length ≤ n - k ∧ word.length = n := by
  unfold pmendX at h
  split at h
  · next hw =>
    unfold pmendall at h
    split at h
    · cases h
    · next h1 =>
      have h1' : er.any (outB n) = false := by simpa using h1
      split at h
      · cases h
      · next h2 =>
        split at h
        · next h3 => cases h; exact ⟨hw, h3, h1', by omega, hw⟩
        · split at h
          · cases h
          · next out hm =>
            split at h
            · next h4 =>
              have := pmend_len hm out rfl
              cases h
              exact ⟨by rw [this, hw], h4, h1', by omega, hw⟩
            · cases h
  · cases h
theorem pmendX_right {F : Solve.Way} {n k : Nat} {x : List UInt8} {er : List Int} (h1 : x.length = n) (h2 : rightB (n - k) x = true) (h3 : er.any (outB n) = false) (h4 : (eset er).length ≤ n - k) : pmendX F n k x er = (0, x, []) := by
  rw [pmendX, if_pos h1, pmendall, if_neg (by rw [h3]; simp), if_neg (by omega), if_pos h2]
theorem pmendX_code (F : Solve.Way) (n k : Nat) (word : List UInt8) (er : List Int) : (pmendX F n k word er).1 = 0 ∨ (pmendX F n k word er).1 = 1 ∨ (pmendX F n k word er).1 = 8 := by
  unfold pmendX pmendall
  split
  · split
    · exact .inr (.inl rfl)
    · split
      · exact .inr (.inr rfl)
      · split
        · exact .inl rfl
        · split
          · exact .inr (.inr rfl)
          · split
            · exact .inl rfl
            · exact .inr (.inr rfl)
  · exact .inr (.inl rfl)

/-! ### The law -/
/-- A struct of two cells. -/
def Two (w : World) (b : Nat) (V0 V1 : Value) : Prop := w.cell? ⟨b, 0, none⟩ = some V0 ∧ w.cell? ⟨b, 1, none⟩ = some V1
theorem Two.below {w w1 : World} {b : Nat} {V0 V1 : Value} (h : Two w b V0 V1) (hb : Below w.heap.size w w1) : Two w1 b V0 V1 :=
  ⟨(hb.cell (p := ⟨b, 0, none⟩) (World.block_lt_of_cell? w _ h.1)).trans h.1, (hb.cell (p := ⟨b, 1, none⟩) (World.block_lt_of_cell? w _ h.2)).trans h.2⟩
set_option maxRecDepth 100000 in
set_option maxHeartbeats 4000000 in
theorem again_any (n k : Int) (A A2 : Option Addr) (m c m2 c2 : Nat) (word : List UInt8) (er : List Int) (w : World) (hl : Rd B w A m word) (hl2 : Rd I w A2 m2 er) :
    Calls Try.prog 10 #[I n, I k, .agg #[.slice A m c, .slice A2 m2 c2]] w fun e w' => e = .returned (.bool true) ∧ Below w.heap.size w w' := by
  have HL := As.mk hl; clear hl
  have HL2 := As.mk hl2; clear hl2
  go_enter Try.func10, Try.ntmps10
  go_wp2_with fail
  generalize hw0 : w.alloc (.cells #[.slice A m c, .slice A2 m2 c2] 102) = w0
  have HT0 : As (Two w0 w.heap.size (.slice A m c) (.slice A2 m2 c2)) := ⟨by
    have hc (i : Nat) := blk_cell (blk_new w (.cells #[.slice A m c, .slice A2 m2 c2] 102)) i
    rw [← hw0]; exact ⟨hc 0, hc 1⟩⟩
  have HB0 : As (Below w.heap.size w w0) := ⟨hw0 ▸ alloc_below _ _⟩
  clear hw0
  generalize hb : w.heap.size = b at *
  have HBb := As.mk hb
  clear hb
  refine (awake_any _).mono ?_
  rintro e w1 ⟨rfl, hb1⟩
  have HT1 : As (Two w1 b (.slice A m c) (.slice A2 m2 c2)) := ⟨HT0.out.below hb1⟩
  have HB1 : As (Below b w w1) := ⟨below_then HB0.out (HBb.out ▸ HB0.out.size) hb1⟩
  clear hb1 HT0 HB0
  obtain ⟨x0, x1⟩ := HT1.out
  go_wp2_with fail
  refine (there_any n k w1).mono ?_
  by_cases ht : thereB n k = true
  · have hth := of_decide_eq_true ht
    rw [ht]
    clear ht
    rintro e w' ⟨rfl, rfl⟩
    by_cases h300 : m ≤ 300
    · have e1 : decide ((300 : Int) < (m : Int)) = false := decide_eq_false (by omega)
      by_cases h60 : m2 ≤ 60
      · have e2 : decide ((60 : Int) < (m2 : Int)) = false := decide_eq_false (by omega)
        obtain ⟨N, rfl⟩ : ∃ N : Nat, n = N := ⟨n.toNat, by omega⟩
        obtain ⟨K, rfl⟩ : ∃ K : Nat, k = K := ⟨k.toNat, by omega⟩
        have hth' : 1 ≤ K ∧ K < N ∧ N ≤ 255 ∧ N - K ≤ 64 := by omega
        have HTH := As.mk hth'
        clear hth hth'
        go_wp2_with fail
        refine (Gf.new_any w1).mono ?_
        rintro e w2 ⟨rfl, hf, hb2⟩
        have HF := As.mk hf
        have HB12 := As.mk hb2
        clear hf hb2
        clear x0 x1 e1 e2
        go_wp2_with fail
        refine (Rs.new_any w1.heap.size N K w2 HF.out HTH.out).mono ?_
        rintro e w3 ⟨cd, Ag, mg, cg, rfl, _, hcode, hb3⟩
        have HC3 := As.mk hcode
        have HB13 : As (Below w1.heap.size w1 w3) := ⟨below_then HB12.out HB12.out.size hb3⟩
        have HT3 : As (Two w3 b (.slice A m c) (.slice A2 m2 c2)) := ⟨HT1.out.below HB13.out⟩
        have HB3 : As (Below b w w3) := ⟨HB1.out.trans (HB13.out.mono (HBb.out ▸ HB1.out.size))⟩
        have HL3 : As (Rd B w3 A m word) := ⟨HL.out.below (HBb.out ▸ HB3.out)⟩
        have HL23 : As (Rd I w3 A2 m2 er) := ⟨HL2.out.below (HBb.out ▸ HB3.out)⟩
        clear hcode hb3 HF HB12 HB13 HT1 HB1
        obtain ⟨x0, x1⟩ := HT3.out
        go_wp2_with fail
        clear x0 x1
        refine (mend_word cd w1.heap.size N K Ag mg cg A A2 m c m2 c2 word er w3 HC3.out HL3.out HL23.out (by omega)).mono ?_
        generalize hr : pmendX psearch N K word er = r
        have HR := As.mk hr
        clear hr
        rintro e w4 ⟨hb4, A8, m8, c8, A9, m9, c9, rfl, h8, h9, _, hmc8⟩
        have HX4 : As (Rd B w4 A8 m8 r.2.1) := ⟨h8.rd'.2⟩
        have HP4 : As (Rd I w4 A9 m9 (r.2.2.map fun (i : Nat) => (i : Int))) := ⟨rd_int h9.rd'.2⟩
        have HT4 : As (Two w4 b (.slice A m c) (.slice A2 m2 c2)) := ⟨HT3.out.below hb4⟩
        have HB4 : As (Below b w w4) := ⟨HB3.out.trans (hb4.mono (HBb.out ▸ HB3.out.size))⟩
        have HL4 : As (Rd B w4 A m word) := ⟨HL3.out.below hb4⟩
        have HL24 : As (Rd I w4 A2 m2 er) := ⟨HL23.out.below hb4⟩
        have HC4 : As (CodeAt w4 cd w1.heap.size N K Ag mg cg) := ⟨HC3.out.below hb4⟩
        clear hb4 h8 h9 hmc8 HT3 HB3 HL3 HL23 HC3
        obtain ⟨x0, x1⟩ := HT4.out
        go_wp2_with fail
        clear x0 x1
        go_loopw [12, 13] (fun o i wr => ∃ (j : Nat) (A' : Option Addr) (q c' : Nat), j ≤ m2 ∧ i = .int .i64 ((j : Int) - 1) ∧ o = .slice A' q c' ∧ q ≤ 2 * m2 ∧ L.Own I 3 wr w4.heap.size (.slice A' q c') (dbl (er.drop j)) ∧ (A' = none → c' = 0) ∧ q ≤ c' ∧ Below w4.heap.size w4 wr) (fun _ i _ => (intOf i + 1).toNat)
        case atStart => exact ⟨m2, none, 0, 0, Nat.le_refl _, rfl, rfl, by omega, by rw [List.drop_eq_nil_of_le (by rw [HL24.out.len]; exact Nat.le_refl _)]; exact L.Own.nil _ _ _ _, fun _ => rfl, Nat.le_refl _, Below.refl _ _⟩
        case round =>
          obtain ⟨j, A', q, c', hj, hi, rfl, hq, hown, hA', hC', hbl⟩ := hrel
          have HOW := As.mk hown; clear hown
          have HAA := As.mk hA'; clear hA'
          have HCC := As.mk hC'; clear hC'
          have HBL := As.mk hbl; clear hbl
          by_cases h0 : 0 < j
          · obtain ⟨j, rfl⟩ : ∃ j', j = j' + 1 := ⟨j - 1, by omega⟩
            have hi' := hi.trans (show (Value.int .i64 (((j + 1 : Nat) : Int) - 1)) = .int .i64 (j : Int) by congr 1; omega)
            clear hi
            subst hi'
            have hlt : j < m2 := by omega
            obtain ⟨ad, rfl, x, hx, hc⟩ := (HL24.out.below HBL.out).at_ j hlt
            have HE : As ((dbl (er.drop (j + 1))).map I ++ [I x, I x] = (dbl (er.drop j)).map I) := ⟨by rw [dbl_drop hx, List.map_append]; rfl⟩
            have HCE := As.mk hc
            have HTR : As (Two wr b (.slice A m c) (.slice (some ad) m2 c2)) := ⟨HT4.out.below HBL.out⟩
            have HQL : As (q = (dbl (er.drop (j + 1))).length) := ⟨HOW.out.rd'.1⟩
            have hql : q + 2 ≤ 2 * m2 := by
              have h1 := HQL.out
              rw [dbl_len, List.length_drop, HL24.out.len] at h1; omega
            clear hx hc h0 hj
            go_wp2_with fail
            refine regionT [0, 1, 2, 3, 4, 5, 6, 7, 8, 9, 10, 11, 12, 13] mixed (by kernel_rfl) (by decide) (by kernel_rfl) ?_
            intro wd hd hds
            have HBD : As (Below w4.heap.size w4 wd) := ⟨HBL.out.trans (hd.out _)⟩
            have HTD : As (wd.cell? ⟨b, 1, none⟩ = some (.slice (some ad) m2 c2)) := ⟨(HTR.out.below (hd.out _)).2⟩
            have HCD : As (wd.cell? (ad.add j) = some (I x)) := ⟨((hd.out _).cell (p := ad.add j) (World.block_lt_of_cell? _ _ HCE.out)).trans HCE.out⟩
            have HOD : As (L.Own I 3 wd w4.heap.size (.slice A' q c') (dbl (er.drop (j + 1)))) := ⟨HOW.out.below (hd.out _)⟩
            clear hd hds
            iterate 2 (refine wpT_float rfl rfl rfl (fun w' => by go_simp; rfl) ?_; try simp only [Act.put, List.getElem_toArray, List.getElem_cons_zero, List.getElem_cons_succ, List.setIfInBounds_toArray, List.set_cons_zero, List.set_cons_succ])
            (refine wpT_load rfl rfl rfl rfl (fun w' hw' => by have hq : w'.cell? ⟨b, 1, none⟩ = some (.slice (some ad) m2 c2) := (hw'.cell (p := ⟨b, 1, none⟩) (World.block_lt_of_cell? _ _ HTD.out)).trans HTD.out; go_simp; rfl) ?_; try simp only [Act.put, List.getElem_toArray, List.getElem_cons_zero, List.getElem_cons_succ, List.setIfInBounds_toArray, List.set_cons_zero, List.set_cons_succ])
            iterate 2 (refine wpT_float rfl rfl rfl (fun w' => by go_simp; rfl) ?_; try simp only [Act.put, List.getElem_toArray, List.getElem_cons_zero, List.getElem_cons_succ, List.setIfInBounds_toArray, List.set_cons_zero, List.set_cons_succ])
            (refine wpT_load rfl rfl rfl rfl (fun w' hw' => by have hq : w'.cell? (ad.add j) = some (I x) := (hw'.cell (p := (ad.add j)) (World.block_lt_of_cell? _ _ HCD.out)).trans HCD.out; go_simp; rfl) ?_; try simp only [Act.put, List.getElem_toArray, List.getElem_cons_zero, List.getElem_cons_succ, List.setIfInBounds_toArray, List.set_cons_zero, List.set_cons_succ])
            iterate 1 (refine wpT_float rfl rfl rfl (fun w' => by go_simp; rfl) ?_; try simp only [Act.put, List.getElem_toArray, List.getElem_cons_zero, List.getElem_cons_succ, List.setIfInBounds_toArray, List.set_cons_zero, List.set_cons_succ])
            (refine wpT_load rfl rfl rfl rfl (fun w' hw' => by have hq : w'.cell? ⟨b, 1, none⟩ = some (.slice (some ad) m2 c2) := (hw'.cell (p := ⟨b, 1, none⟩) (World.block_lt_of_cell? _ _ HTD.out)).trans HTD.out; go_simp; rfl) ?_; try simp only [Act.put, List.getElem_toArray, List.getElem_cons_zero, List.getElem_cons_succ, List.setIfInBounds_toArray, List.set_cons_zero, List.set_cons_succ])
            iterate 2 (refine wpT_float rfl rfl rfl (fun w' => by go_simp; rfl) ?_; try simp only [Act.put, List.getElem_toArray, List.getElem_cons_zero, List.getElem_cons_succ, List.setIfInBounds_toArray, List.set_cons_zero, List.set_cons_succ])
            (refine wpT_load rfl rfl rfl rfl (fun w' hw' => by have hq : w'.cell? (ad.add j) = some (I x) := (hw'.cell (p := (ad.add j)) (World.block_lt_of_cell? _ _ HCD.out)).trans HCD.out; go_simp; rfl) ?_; try simp only [Act.put, List.getElem_toArray, List.getElem_cons_zero, List.getElem_cons_succ, List.setIfInBounds_toArray, List.set_cons_zero, List.set_cons_succ])
            refine wpT_lit 3 2 #[I x, I x] rfl rfl rfl (by go_simp) ?_
            intro g6 w6 hg6 hl6 hb6
            try simp only [Act.put, List.getElem_toArray, List.getElem_cons_zero, List.getElem_cons_succ, List.setIfInBounds_toArray, List.set_cons_zero, List.set_cons_succ]
            refine wpT_lastThen rfl rfl (by kernel_rfl) rfl ?_
            refine append_event w4 w4.heap.size 45 3 (.int .i64 0) 1 8 _ _ rfl rfl Try.underlying45 info_int rfl (by decide) (.slice A' q c') q _ (some ⟨g6, 0, none⟩) 2 2 [I x, I x] rfl rfl (fun h => by cases h) (ownV_below HOD.out.row hb6.out) (rdv_blk hg6.out (by simp) (by omega)) (by simp [Value.oneCell']) (below_then HBD.out HBD.out.size hb6.out) (Nat.le_trans HBD.out.size hb6.out.size) (by omega) (by decide) (q + 2) rfl _ HE.out ?_
            intro A7 c7 w7 hown7 hA7 hC7 hb7 _ _
            change wpT _ _ _ _ _ _ _
            iterate 1 (refine wpT_float rfl rfl rfl (fun w' => by go_simp; rfl) ?_; try simp only [Act.put, List.getElem_toArray, List.getElem_cons_zero, List.getElem_cons_succ, List.setIfInBounds_toArray, List.set_cons_zero, List.set_cons_succ])
            refine wpT_done (NoPanic.normal ?_)
            go_wp2_with fail
            go_roundw
            case rel => exact ⟨j, A7, q + 2, c7, by omega, by go_num, rfl, by omega, Own.of_row hown7.out, hA7.out, hC7.out, hb7.out⟩
            case measure => simp [intOf]
          · have hj0 : j = 0 := by omega
            subst hj0
            have hi' := hi.trans (show (Value.int .i64 (((0 : Nat) : Int) - 1)) = .int .i64 (-1) from rfl)
            clear hi
            subst hi'
            have HER : As (Rd I wr A' q (dbl er)) := ⟨by have := HOW.out.rd'.2; rwa [List.drop_zero] at this⟩
            have HTR : As (Two wr b (.slice A m c) (.slice A2 m2 c2)) := ⟨HT4.out.below HBL.out⟩
            have HCR : As (CodeAt wr cd w1.heap.size N K Ag mg cg) := ⟨HC4.out.below HBL.out⟩
            have HLR : As (Rd B wr A m word) := ⟨HL4.out.below HBL.out⟩
            have HL2R : As (Rd I wr A2 m2 er) := ⟨HL24.out.below HBL.out⟩
            have HXR : As (Rd B wr A8 m8 r.2.1) := ⟨HX4.out.below HBL.out⟩
            have HPR : As (Rd I wr A9 m9 (r.2.2.map fun (i : Nat) => (i : Int))) := ⟨HP4.out.below HBL.out⟩
            have HBR : As (Below b w wr) := ⟨HB4.out.trans (HBL.out.mono (HBb.out ▸ HB4.out.size))⟩
            clear h0 hj HOW HT4 HC4 HL4 HL24 HX4 HP4 HB4 HBL
            obtain ⟨x0, x1⟩ := HTR.out
            go_wp2_with fail
            clear x0 x1
            refine (mend_word cd w1.heap.size N K Ag mg cg A A' m c q c' word (dbl er) wr HCR.out HLR.out HER.out (by omega)).mono ?_
            rw [pmendX_set psearch N K word (a := dbl er) (b := er) (fun i => mem_dbl), HR.out]
            rintro e w5 ⟨hb5, A10, m10, c10, A11, m11, c11, rfl, h10, h11, _, hmc10⟩
            have HX5 : As (Rd B w5 A8 m8 r.2.1) := ⟨HXR.out.below hb5⟩
            have HP5 : As (Rd I w5 A9 m9 (r.2.2.map fun (i : Nat) => (i : Int))) := ⟨HPR.out.below hb5⟩
            have HQ5 : As (Rd I w5 A11 m11 (r.2.2.map fun (i : Nat) => (i : Int))) := ⟨rd_int h11.rd'.2⟩
            have HT5 : As (Two w5 b (.slice A m c) (.slice A2 m2 c2)) := ⟨HTR.out.below hb5⟩
            have HB5 : As (Below b w w5) := ⟨HBR.out.trans (hb5.mono (HBb.out ▸ HBR.out.size))⟩
            have HL25 : As (Rd I w5 A2 m2 er) := ⟨HL2R.out.below hb5⟩
            have HC5 : As (CodeAt w5 cd w1.heap.size N K Ag mg cg) := ⟨HCR.out.below hb5⟩
            have hc1 := conv_str (c := c8) HX5.out
            have hc2 := conv_str (c := c10) h10.rd'.2
            clear hb5 h10 h11 HTR HCR HLR HER HL2R HXR HPR HBR
            generalize hz : r.1 = z at *
            have HZ := As.mk hz
            clear hz
            have hzz : (z != z) = false := by simp
            go_wp2_with fail
            clear hc1 hc2
            refine (same_any A9 A11 m9 c9 m11 c11 _ _ w5 HP5.out HQ5.out).mono ?_
            rintro e w6 ⟨rfl, hb6⟩
            have hsame : sameB (r.2.2.map fun (i : Nat) => (i : Int)) (r.2.2.map fun (i : Nat) => (i : Int)) = true := decide_eq_true rfl
            rw [hsame]
            have HX6 : As (Rd B w6 A8 m8 r.2.1) := ⟨HX5.out.below hb6⟩
            have HT6 : As (Two w6 b (.slice A m c) (.slice A2 m2 c2)) := ⟨HT5.out.below hb6⟩
            have HB6 : As (Below b w w6) := ⟨HB5.out.trans (hb6.mono (HBb.out ▸ HB5.out.size))⟩
            have HL26 : As (Rd I w6 A2 m2 er) := ⟨HL25.out.below hb6⟩
            have HC6 : As (CodeAt w6 cd w1.heap.size N K Ag mg cg) := ⟨HC5.out.below hb6⟩
            clear hb6 hsame hzz HX5 HP5 HQ5 HT5 HB5 HL25 HC5
            by_cases hz0 : z = 0
            · subst hz0
              have hok := pmendX_ok (x := r.2.1) (at_ := r.2.2) (HR.out.trans (by rw [← HZ.out]))
              have HM := As.mk (pmendX_right (F := psearch) (er := er) hok.1 hok.2.1 hok.2.2.1 hok.2.2.2.1)
              have hm8 : m8 = N := by rw [← HX6.out.len, hok.1]
              have HRT := As.mk hok.2.1
              subst hm8
              clear hok
              obtain ⟨x0, x1⟩ := HT6.out
              go_wp2_with fail
              clear x0 x1
              refine (mend_word cd w1.heap.size m8 K Ag mg cg A8 A2 m8 c8 m2 c2 r.2.1 er w6 HC6.out HX6.out HL26.out (by omega)).mono ?_
              rw [HM.out]
              rintro e w7 ⟨hb7, A12, m12, c12, A13, m13, c13, rfl, h12, h13, _, hmc12⟩
              have HX7 : As (Rd B w7 A8 m8 r.2.1) := ⟨HX6.out.below hb7⟩
              have HY7 : As (Rd B w7 A12 m12 r.2.1) := ⟨h12.rd'.2⟩
              have HC7 : As (CodeAt w7 cd w1.heap.size m8 K Ag mg cg) := ⟨HC6.out.below hb7⟩
              have HB7 : As (Below b w w7) := ⟨HB6.out.trans (hb7.mono (HBb.out ▸ HB6.out.size))⟩
              have hm13 : m13 = 0 := h13.rd'.1
              subst hm13
              clear hb7 h12 h13 hmc12 HX6 HT6 HL26 HC6 HB6
              go_wp2_with fail
              refine (right_any cd w1.heap.size m8 K Ag mg cg A8 c8 r.2.1 w7 HC7.out HX7.out).mono ?_
              rw [HRT.out]
              rintro e w8 ⟨rfl, hb8⟩
              have HB8 : As (Below b w w8) := ⟨HB7.out.trans (hb8.mono (HBb.out ▸ HB7.out.size))⟩
              have hc1 := conv_str (c := c8) (HX7.out.below hb8)
              have hc2 := conv_str (c := c12) (HY7.out.below hb8)
              clear hb8
              go_wp2_with fail
              go_ret
              exact ⟨rfl, HBb.out ▸ HB8.out⟩
            · have hzn : (z != 0) = true := by simpa using hz0
              clear hz0
              go_wp2_with fail
              go_ret
              exact ⟨rfl, HBb.out ▸ HB6.out⟩
      · have e2 : decide ((60 : Int) < (m2 : Int)) = true := decide_eq_true (by omega)
        go_wp2_with fail
        go_ret
        exact ⟨rfl, HBb.out ▸ HB1.out⟩
    · have e1 : decide ((300 : Int) < (m : Int)) = true := decide_eq_true (by omega)
      go_wp2_with fail
      go_ret
      exact ⟨rfl, HBb.out ▸ HB1.out⟩
  · have ht' : thereB n k = false := by simpa using ht
    rw [ht']
    clear ht ht'
    rintro e w' ⟨rfl, rfl⟩
    go_wp2_with fail
    go_ret
    exact ⟨rfl, HBb.out ▸ HB1.out⟩
end Go.Proofs.Ytdcjionaedcfoaa.LawS
