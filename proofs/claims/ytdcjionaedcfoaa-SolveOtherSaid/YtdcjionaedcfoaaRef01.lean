/- Walks: ref01.Same; string(b). -/
import Derived.Test.YtdcjionaedcfoaaSolve8
import Derived.Laws.IdiomStrings
import Derived.Lib.BufferRead
set_option linter.unusedVariables false
set_option linter.unusedSimpArgs false
namespace Go.Proofs.Ytdcjionaedcfoaa.Ref
open Go.RowKit Go.Proofs.Ytdcjionaedcfoaa.L Go.Proofs.Ytdcjionaedcfoaa.Poly

/-- string(b). -/
theorem conv_str {w : World} {A : Option Addr} {n c : Nat} {xs : List UInt8} (h : Rd B w A n xs) : (convert 39 9 (.slice A n c)).run Try.prog w = .ok (.string ⟨xs.toArray⟩) w := by
  have hl := h.len
  cases A with
  | none =>
    have h0 : n = 0 := by
      rcases Nat.eq_zero_or_pos n with h0 | h0
      · exact h0
      · obtain ⟨ad, e, _⟩ := h.2.2 h0; cases e
    subst h0
    have : xs = [] := List.eq_nil_of_length_eq_zero hl
    subst this
    exact Lib.run_convert_nil_bytes w _ _ 5 c Try.underlying39 Try.underlying5 Try.underlying9
  | some ad =>
    subst hl
    refine run_convert_bytes_back w _ _ 5 ad c xs Try.underlying39 Try.underlying5 Try.underlying9 fun j hj => ?_
    obtain ⟨ad', e, x, hx, hc⟩ := h.at_ j hj
    cases e
    rw [hc]
    rw [List.getElem?_eq_getElem hj] at hx
    cases hx; rfl
def sameB (xs ys : List Int) : Bool := decide (xs = ys)
def SameP (w : World) (xs ys : List Int) (e : Ending) (w' : World) : Prop := e = .returned (.bool (sameB xs ys)) ∧ Below w.heap.size w w'
set_option maxRecDepth 100000 in
set_option maxHeartbeats 1000000 in
theorem same_any (A A2 : Option Addr) (m c m2 c2 : Nat) (xs ys : List Int) (w : World) (hl : Rd I w A m xs) (hl2 : Rd I w A2 m2 ys) :
    Calls Try.prog 62 #[.slice A m c, .slice A2 m2 c2] w (SameP w xs ys) := by
  have hle := hl.le
  have hle2 := hl2.le
  have h1 := hl.len
  have h2 := hl2.len
  have HL := As.mk hl; clear hl
  have HL2 := As.mk hl2; clear hl2
  by_cases hne : m = m2
  · subst hne
    have H1 := As.mk h1
    have H2 := As.mk h2
    clear h1 h2
    have e1 : ((m : Int) != m) = false := by simp
    have e2 : (m != m) = false := by simp
    go_enter Try.func62, Try.ntmps62
    go_wp2_with fail
    clear e1 e2
    go_loopw [5] (fun i wr => ∃ k : Nat, k ≤ m ∧ i = .int .i64 k ∧ xs.take k = ys.take k ∧ Below w.heap.size w wr) (fun i _ => m - (intOf i).toNat)
    case atStart => exact ⟨0, by omega, rfl, rfl, Below.refl _ _⟩
    case round =>
      obtain ⟨k, hk, rfl, hpre, hbl⟩ := hrel
      have HPRE := As.mk hpre; clear hpre
      have HBL := As.mk hbl; clear hbl
      by_cases hlt : k < m
      · obtain ⟨ad, rfl, x, hx, hc⟩ := HL.out.at_ k hlt
        obtain ⟨ad2, rfl, y, hy, hc2⟩ := HL2.out.at_ k hlt
        have HX := As.mk hx
        have HY := As.mk hy
        have HC1 := As.mk hc
        have HC2 := As.mk hc2
        clear hx hy hc hc2
        go_wp2_with fail
        refine regionT [0, 1, 2, 3, 4, 5, 6, 7, 8] mixed (by kernel_rfl) (by decide) (by kernel_rfl) ?_
        intro wd hd hds
        have HBD : As (Below w.heap.size w wd) := ⟨HBL.out.trans (hd.out _)⟩
        have HXC : As (wd.cell? (ad.add k) = some (I x)) := ⟨(HBD.out.cell (p := ad.add k) (World.block_lt_of_cell? _ _ HC1.out)).trans HC1.out⟩
        have HYC : As (wd.cell? (ad2.add k) = some (I y)) := ⟨(HBD.out.cell (p := ad2.add k) (World.block_lt_of_cell? _ _ HC2.out)).trans HC2.out⟩
        clear hd hds
        iterate 3 (refine wpT_float rfl rfl rfl (fun w' => by go_simp; rfl) ?_; try simp only [Act.put, List.getElem_toArray, List.getElem_cons_zero, List.getElem_cons_succ, List.setIfInBounds_toArray, List.set_cons_zero, List.set_cons_succ])
        (refine wpT_load rfl rfl rfl rfl (fun w' hw' => by have hq : w'.cell? (ad.add k) = some (I x) := (hw'.cell (p := (ad.add k)) (World.block_lt_of_cell? _ _ HXC.out)).trans HXC.out; go_simp; rfl) ?_; try simp only [Act.put, List.getElem_toArray, List.getElem_cons_zero, List.getElem_cons_succ, List.setIfInBounds_toArray, List.set_cons_zero, List.set_cons_succ])
        iterate 3 (refine wpT_float rfl rfl rfl (fun w' => by go_simp; rfl) ?_; try simp only [Act.put, List.getElem_toArray, List.getElem_cons_zero, List.getElem_cons_succ, List.setIfInBounds_toArray, List.set_cons_zero, List.set_cons_succ])
        (refine wpT_load rfl rfl rfl rfl (fun w' hw' => by have hq : w'.cell? (ad2.add k) = some (I y) := (hw'.cell (p := (ad2.add k)) (World.block_lt_of_cell? _ _ HYC.out)).trans HYC.out; go_simp; rfl) ?_; try simp only [Act.put, List.getElem_toArray, List.getElem_cons_zero, List.getElem_cons_succ, List.setIfInBounds_toArray, List.set_cons_zero, List.set_cons_succ])
        iterate 1 (refine wpT_float rfl rfl rfl (fun w' => by go_simp; rfl) ?_; try simp only [Act.put, List.getElem_toArray, List.getElem_cons_zero, List.getElem_cons_succ, List.setIfInBounds_toArray, List.set_cons_zero, List.set_cons_succ])
        refine wpT_done (NoPanic.normal ?_)
        by_cases h0 : x = y
        · subst h0
          have e1 : (x != x) = false := by simp
          have HE : As (xs.take (k + 1) = ys.take (k + 1)) := ⟨by rw [List.take_add_one, List.take_add_one, HX.out, HY.out, HPRE.out]⟩
          go_wp2_with fail
          go_roundw
          case rel => exact ⟨k + 1, by omega, by go_num, HE.out, HBD.out⟩
          case measure => simp [intOf]; omega
        · have e1 : (x != y) = true := by simpa using h0
          have HE : As (sameB xs ys = false) := ⟨decide_eq_false fun h => h0 (by
            have a := HX.out; have b := HY.out
            rw [h, b] at a; cases a; rfl)⟩
          clear h0
          go_wp2_with fail
          go_ret
          exact ⟨by rw [HE.out]; rfl, HBD.out⟩
      · have HE : As (sameB xs ys = true) := ⟨decide_eq_true (by
          have e : k = m := by omega
          have := HPRE.out
          rw [e, List.take_of_length_le (by have := H1.out; omega), List.take_of_length_le (by have := H2.out; omega)] at this
          exact this)⟩
        go_wp2_with fail
        go_ret
        exact ⟨by rw [HE.out]; rfl, HBL.out⟩
  · have HE : As (sameB xs ys = false) := ⟨decide_eq_false fun h => hne (by rw [← h1, ← h2, h])⟩
    have e1 : ((m : Int) != m2) = true := by rw [bne_iff_ne]; omega
    have e2 : (m != m2) = true := by rw [bne_iff_ne]; omega
    clear hne h1 h2
    go_enter Try.func62, Try.ntmps62
    go_wp2_with fail
    go_ret
    exact ⟨by rw [HE.out]; rfl, Below.refl _ _⟩
end Go.Proofs.Ytdcjionaedcfoaa.Ref
