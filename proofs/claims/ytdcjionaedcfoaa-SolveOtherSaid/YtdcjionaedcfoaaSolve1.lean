/- Walks of layer 7 (solve): at, place, high, value. -/
import Derived.Test.YtdcjionaedcfoaaRs3
set_option linter.unusedVariables false
set_option linter.unusedSimpArgs false
namespace Go.Proofs.Ytdcjionaedcfoaa.Solve
open Go.RowKit Go.Proofs.Ytdcjionaedcfoaa.L Go.Proofs.Ytdcjionaedcfoaa.Gf Go.Proofs.Ytdcjionaedcfoaa.Poly Go.Proofs.Ytdcjionaedcfoaa.Rs

/-- A solver's block. -/
structure SolAt (w : World) (v p n pp : Nat) (V3 V4 V5 : Value) : Prop where
  h0 : w.cell? ⟨v, 0, none⟩ = some (.pointer (some ⟨p, 0, none⟩))
  h1 : w.cell? ⟨v, 1, none⟩ = some (I n)
  h2 : w.cell? ⟨v, 2, none⟩ = some (I pp)
  h3 : w.cell? ⟨v, 3, none⟩ = some V3
  h4 : w.cell? ⟨v, 4, none⟩ = some V4
  h5 : w.cell? ⟨v, 5, none⟩ = some V5
  free : w.frozen? ⟨v, 5, none⟩ = false
  field : FieldAt w p
theorem SolAt.below {w w' : World} {v p n pp : Nat} {V3 V4 V5 : Value} (h : SolAt w v p n pp V3 V4 V5) (hb : Below w.heap.size w w') : SolAt w' v p n pp V3 V4 V5 :=
  have q {a : Addr} {u : Value} (hc : w.cell? a = some u) : w'.cell? a = some u := (hb.cell (World.block_lt_of_cell? w _ hc)).trans hc
  ⟨q h.h0, q h.h1, q h.h2, q h.h3, q h.h4, q h.h5, (hb.frozen (World.block_lt_of_cell? w _ h.h5)).trans h.free, h.field.below hb⟩

/-! ### at -/
def patI (xs : List UInt8) (i : Int) : UInt8 := if 0 ≤ i then xs.getD i.toNat 0 else 0
theorem at_any (A : Option Addr) (n c : Nat) (xs : List UInt8) (i : Int) (w : World) (hl : Rd B w A n xs) :
    Calls Try.prog 209 #[.slice A n c, I i] w fun e w' => e = .returned (B (patI xs i)) ∧ w = w' := by
  have hL := hl.len
  have hle := hl.le
  by_cases h0 : i < 0
  · have HP : As (patI xs i = 0) := ⟨by rw [patI, if_neg (by omega)]⟩
    have e : decide (i < 0) = true := decide_eq_true h0
    clear hL hle
    go_enter Try.func209, Try.ntmps209
    go_wp2_with fail
    go_ret
    exact ⟨by rw [HP.out]; rfl, rfl⟩
  · have e : decide (i < 0) = false := decide_eq_false h0
    by_cases h1 : (n : Int) ≤ i
    · have HP : As (patI xs i = 0) := ⟨by rw [patI, if_pos (by omega), List.getD_eq_getElem?_getD, List.getElem?_eq_none (by omega)]; rfl⟩
      have e1 : decide ((n : Int) ≤ i) = true := decide_eq_true h1
      clear hL hle
      go_enter Try.func209, Try.ntmps209
      go_wp2_with fail
      go_ret
      exact ⟨by rw [HP.out]; rfl, rfl⟩
    · obtain ⟨k, rfl⟩ := Int.eq_ofNat_of_zero_le (show 0 ≤ i by omega)
      have e1 : decide ((n : Int) ≤ (k : Int)) = false := decide_eq_false h1
      have e2 : decide (n ≤ k) = false := decide_eq_false (by omega)
      have hk : k < n := by omega
      obtain ⟨ad, rfl, x, hx, hc⟩ := hl.at_ k hk
      have HP : As (patI xs (k : Int) = x) := ⟨by rw [patI, if_pos (by omega), Int.toNat_natCast, List.getD_eq_getElem?_getD, hx]; rfl⟩
      clear hx hL hl
      go_enter Try.func209, Try.ntmps209
      go_wp2_with fail
      go_ret
      exact ⟨by rw [HP.out]; rfl, rfl⟩

/-! ### place -/
theorem place_any (v p n pp : Nat) (V3 V4 V5 : Value) (i : Nat) (w : World) (hs : SolAt w v p n pp V3 V4 V5) (hn : n ≤ 255) (hi : i < n) :
    Calls Try.prog 203 #[.pointer (some ⟨v, 0, none⟩), I i] w fun e w' => e = .returned (B (gexp ((n : Int) - 1 - i))) ∧ Below w.heap.size w w' := by
  have HS := As.mk hs; clear hs
  go_enter Try.func203, Try.ntmps203
  go_wp2_with fail
  have q1 : IntKind.i64.wrap ((n : Int) - 1) = (n : Int) - 1 := IntWalk.i64_in _ (by omega)
  have q2 : IntKind.i64.wrap ((n : Int) - 1 - i) = (n : Int) - 1 - i := IntWalk.i64_in _ (by omega)
  refine regionT [0, 1, 2, 3, 4, 5, 6, 7, 8, 9, 10, 11, 12] mixed (by kernel_rfl) (by decide) (by kernel_rfl) ?_
  intro wd hd hds
  have HSD : As (SolAt wd v p n pp V3 V4 V5) := ⟨HS.out.below (hd.out _)⟩
  iterate 3 (refine wpT_float rfl rfl rfl (fun w' => by go_simp; rfl) ?_; try simp only [Act.put, List.getElem_toArray, List.getElem_cons_zero, List.getElem_cons_succ, List.setIfInBounds_toArray, List.set_cons_zero, List.set_cons_succ])
  (refine wpT_load rfl rfl rfl rfl (fun w' hw' => by obtain ⟨x0, x1, x2, x3, x4, x5, _, _⟩ := HSD.out.below hw'; go_simp; rfl) ?_; try simp only [Act.put, List.getElem_toArray, List.getElem_cons_zero, List.getElem_cons_succ, List.setIfInBounds_toArray, List.set_cons_zero, List.set_cons_succ])
  iterate 3 (refine wpT_float rfl rfl rfl (fun w' => by go_simp; rfl) ?_; try simp only [Act.put, List.getElem_toArray, List.getElem_cons_zero, List.getElem_cons_succ, List.setIfInBounds_toArray, List.set_cons_zero, List.set_cons_succ])
  (refine wpT_load rfl rfl rfl rfl (fun w' hw' => by obtain ⟨x0, x1, x2, x3, x4, x5, _, _⟩ := HSD.out.below hw'; go_simp; rfl) ?_; try simp only [Act.put, List.getElem_toArray, List.getElem_cons_zero, List.getElem_cons_succ, List.setIfInBounds_toArray, List.set_cons_zero, List.set_cons_succ])
  iterate 3 (refine wpT_float rfl rfl rfl (fun w' => by go_simp; rfl) ?_; try simp only [Act.put, List.getElem_toArray, List.getElem_cons_zero, List.getElem_cons_succ, List.setIfInBounds_toArray, List.set_cons_zero, List.set_cons_succ])
  refine wpT_op rfl rfl rfl ?_
  go_simp
  refine (exp_any p ((n : Int) - 1 - i) wd HSD.out.field).mono ?_
  rintro e w' ⟨rfl, rfl⟩
  refine ⟨Below.refl _ _, ?_⟩
  iterate 1 (refine wpT_float rfl rfl rfl (fun w' => by go_simp; rfl) ?_; try simp only [Act.put, List.getElem_toArray, List.getElem_cons_zero, List.getElem_cons_succ, List.setIfInBounds_toArray, List.set_cons_zero, List.set_cons_succ])
  refine wpT_done (NoPanic.normal ?_)
  go_wp2_with fail
  go_ret
  exact ⟨rfl, hd.out _⟩

/-! ### Reverse, high, value -/
def revF : Nat → Nat → Nat → List UInt8 → List UInt8
  | 0, _, _, l => l
  | m + 1, i, j, l => if i < j then revF m (i + 1) (j - 1) ((l.set i (l.getD j 0)).set j (l.getD i 0)) else l
end Go.Proofs.Ytdcjionaedcfoaa.Solve
