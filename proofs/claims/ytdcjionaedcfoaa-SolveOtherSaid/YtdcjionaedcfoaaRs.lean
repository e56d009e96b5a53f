/- Walks of layer 6 (rs): New, Size, Over, Syndromes, Right. -/
import Derived.Test.YtdcjionaedcfoaaSl
set_option linter.unusedVariables false
set_option linter.unusedSimpArgs false
namespace Go.Proofs.Ytdcjionaedcfoaa.Rs
open Go.RowKit Go.Proofs.Ytdcjionaedcfoaa.L Go.Proofs.Ytdcjionaedcfoaa.Gf Go.Proofs.Ytdcjionaedcfoaa.Poly

def genOf (m : Nat) : List UInt8 := proots ((List.range m).map fun (i : Nat) => gexp (i : Int))
/-- A code's block: its field, its sizes, and its polynomial. -/
structure CodeAt (w : World) (c p n k : Nat) (A : Option Addr) (m cc : Nat) : Prop where
  h0 : w.cell? ⟨c, 0, none⟩ = some (.pointer (some ⟨p, 0, none⟩))
  h1 : w.cell? ⟨c, 1, none⟩ = some (I n)
  h2 : w.cell? ⟨c, 2, none⟩ = some (I k)
  h3 : w.cell? ⟨c, 3, none⟩ = some (.slice A m cc)
  gen : m ≤ cc ∧ Rd B w A m (genOf (n - k))
  field : FieldAt w p
  kn : 1 ≤ k ∧ k < n ∧ n ≤ 255 ∧ n - k ≤ 64
theorem CodeAt.below {w w' : World} {c p n k : Nat} {A : Option Addr} {m cc : Nat} (h : CodeAt w c p n k A m cc) (hb : Below w.heap.size w w') : CodeAt w' c p n k A m cc :=
  have q {a : Addr} {v : Value} (hc : w.cell? a = some v) : w'.cell? a = some v := (hb.cell (World.block_lt_of_cell? w _ hc)).trans hc
  ⟨q h.h0, q h.h1, q h.h2, q h.h3, ⟨h.gen.1, h.gen.2.below hb⟩, h.field.below hb, h.kn⟩

/-! ### New -/
theorem new_none (p : Option Addr) (n k : Int) (w : World) (h : p = none ∨ k < 1 ∨ n ≤ k ∨ 255 < n ∨ 64 < n - k) (hn : -4611686018427387904 ≤ n ∧ n ≤ 4611686018427387904) (hk : -4611686018427387904 ≤ k ∧ k ≤ 4611686018427387904) :
    Calls Try.prog 59 #[.pointer p, I n, I k] w fun e w' => e = .returned (.tuple #[.pointer none, I 1]) ∧ Below w.heap.size w w' := by
  cases p with
  | none =>
    clear h hn hk
    go_enter Try.func59, Try.ntmps59
    go_wp2_with fail
    go_ret2
    exact ⟨rfl, Below.refl _ _⟩
  | some p =>
    have h' : k < 1 ∨ n ≤ k ∨ 255 < n ∨ 64 < n - k := by rcases h with h | h; cases h; exact h
    clear h
    by_cases h1 : k < 1
    · have e : decide (k < 1) = true := decide_eq_true h1
      clear h'
      go_enter Try.func59, Try.ntmps59
      go_wp2_with fail
      go_ret2
      exact ⟨rfl, Below.refl _ _⟩
    · have e1 : decide (k < 1) = false := decide_eq_false h1
      by_cases h2 : n ≤ k
      · have e : decide (n ≤ k) = true := decide_eq_true h2
        clear h'
        go_enter Try.func59, Try.ntmps59
        go_wp2_with fail
        go_ret2
        exact ⟨rfl, Below.refl _ _⟩
      · have e2 : decide (n ≤ k) = false := decide_eq_false h2
        by_cases h3 : 255 < n
        · have e : decide (255 < n) = true := decide_eq_true h3
          clear h'
          go_enter Try.func59, Try.ntmps59
          go_wp2_with fail
          go_ret2
          exact ⟨rfl, Below.refl _ _⟩
        · have e3 : decide (255 < n) = false := decide_eq_false h3
          have h4 : 64 < n - k := by omega
          have e4 : decide (64 < n - k) = true := decide_eq_true h4
          clear h'
          go_enter Try.func59, Try.ntmps59
          go_wp2_with fail
          go_ret2
          exact ⟨rfl, Below.refl _ _⟩
def pows (i : Nat) : List UInt8 := (List.range i).map fun (j : Nat) => gexp (j : Int)
theorem pows_succ (i : Nat) : pows (i + 1) = pows i ++ [gexp (i : Int)] := by simp [pows, List.range_succ]
set_option maxRecDepth 100000 in
set_option maxHeartbeats 1000000 in
theorem new_any (p n k : Nat) (w : World) (hf : FieldAt w p) (h : 1 ≤ k ∧ k < n ∧ n ≤ 255 ∧ n - k ≤ 64) :
    Calls Try.prog 59 #[.pointer (some ⟨p, 0, none⟩), I n, I k] w fun e w' => ∃ c A m cc, e = .returned (.tuple #[.pointer (some ⟨c, 0, none⟩), I 0]) ∧ w.heap.size ≤ c ∧ CodeAt w' c p n k A m cc ∧ Below w.heap.size w w' := by
  have HF := As.mk hf; clear hf
  have HK := As.mk h
  obtain ⟨h1, h2, h3, h4⟩ := h
  have e1 : decide ((k : Int) < 1) = false := decide_eq_false (by omega)
  have e2 : decide ((n : Int) ≤ k) = false := decide_eq_false (by omega)
  have e3 : decide ((255 : Int) < n) = false := decide_eq_false (by omega)
  have e4 : decide ((64 : Int) < (n : Int) - k) = false := decide_eq_false (by omega)
  have e1' : decide (k < 1) = false := decide_eq_false (by omega)
  have e1'' : (k = 0) = False := by simp; omega
  have e2' : decide (n ≤ k) = false := decide_eq_false (by omega)
  have e3' : decide (255 < n) = false := decide_eq_false (by omega)
  have e5 : ((n : Int) - k) = ((n - k : Nat) : Int) := by omega
  have E5 := As.mk e5; clear e5
  go_enter Try.func59, Try.ntmps59
  go_wp2_with fail
  go_loopw [8, 34] (fun o i wr => ∃ (j : Nat) (A' : Option Addr) (c' : Nat), j ≤ n - k ∧ i = .int .i64 j ∧ o = .slice A' j c' ∧ Own B 5 wr w.heap.size (.slice A' j c') (pows j) ∧ (A' = none → c' = 0) ∧ j ≤ c' ∧ Below w.heap.size w wr) (fun _ i _ => (n - k) - (intOf i).toNat)
  case atStart => exact ⟨0, none, 0, by omega, rfl, rfl, Own.nil _ _ _ _, fun _ => rfl, Nat.le_refl _, Below.refl _ _⟩
  case round =>
    obtain ⟨j, A', c', hj, rfl, rfl, hown, hA, hC, hbl⟩ := hrel
    have HOW := As.mk hown; clear hown
    have HA := As.mk hA; clear hA
    have HC := As.mk hC; clear hC
    have HBL := As.mk hbl; clear hbl
    by_cases hlt : j < n - k
    · have hlt' : (j : Int) < (n : Int) - k := by omega
      have HE : As ((pows j).map B ++ [B (gexp (j : Int))] = (pows (j + 1)).map B) := ⟨by rw [pows_succ, List.map_append]; rfl⟩
      have HX : As (∃ x, x = gexp (j : Int)) := ⟨_, rfl⟩
      generalize hx : gexp (j : Int) = x at *
      have HXX := As.mk hx
      clear hx HX
      go_wp2_with (first | (go_at_call 110; refine (exp_any p _ _ (HF.out.below HBL.out)).mono ?_; rw [HXX.out]; rintro e w' ⟨rfl, rfl⟩) | ((with_reducible show wpList _ _ _ ({ dst := some 41, op := _, type := _, pos := _, after := _, guard := _ } :: _) _ _); refine lit_event 5 1 #[B x] rfl (by go_simp) ?_; intro g1 v1 hg1 _ hb1) | (at_builtin; refine append_event w w.heap.size 39 5 (.int .u8 0) 1 1 _ _ rfl rfl Try.underlying39 info_u8 rfl (by decide) _ j _ (some ⟨g1, 0, none⟩) 1 1 [B x] rfl rfl (fun h => by cases h) (ownV_below HOW.out.row hb1.out) (rdv_blk hg1.out (by simp) (by omega)) (by simp [Value.oneCell']) (below_then HBL.out HBL.out.size hb1.out) (Nat.le_trans HBL.out.size hb1.out.size) (by omega) (by decide) (j + 1) rfl _ HE.out ?_; intro A3 c3 w3 hown3 hA3 hC3 hb3 hg3 _))
      go_roundw
      case rel => exact ⟨j + 1, A3, c3, by omega, by go_num, rfl, Own.of_row hown3.out, hA3.out, hC3.out, hb3.out⟩
      case measure => simp [intOf]; omega
    · have e : j = n - k := by omega
      have hlt' : ¬ (j : Int) < (n : Int) - k := by omega
      have E := As.mk e; clear e
      go_wp2_with (first | (go_at_call 80; refine (roots_any p _ _ _ (pows j) _ (HF.out.below HBL.out) (by omega) HOW.out.rd'.2).mono ?_; rintro e w1 ⟨A3, m3, c3, rfl, hown3, hA3, hC3, hb3⟩; have HO3 := As.mk hown3; have HC3 := As.mk hC3; have HB3 := As.mk hb3; clear hown3 hA3 hC3 hb3) | ((with_reducible show wpList _ _ _ ({ dst := some 51, op := _, type := _, pos := _, after := _, guard := _ } :: _) _ _); refine alloc_event 194 #[.pointer (some ⟨p, 0, none⟩), I n, I k, .slice A3 m3 c3] rfl (by go_simp) ?_; intro w4 hg4 hb4; have hg4 := As.mk hg4))
      go_ret2
      have hc (i : Nat) := blk_cell hg4.out i
      have hb5 : Below w1.heap.size w1 w4 := hb4
      exact ⟨w1.heap.size, A3, m3, c3, rfl, Nat.le_trans HBL.out.size HB3.out.size, ⟨hc 0, hc 1, hc 2, hc 3, ⟨HC3.out, E.out ▸ (HO3.out.rd'.2.below hb5)⟩, ((HF.out.below HBL.out).below HB3.out).below hb5, HK.out⟩, below_then (below_then HBL.out HBL.out.size HB3.out) (Nat.le_trans HBL.out.size HB3.out.size) hb5⟩
end Go.Proofs.Ytdcjionaedcfoaa.Rs
