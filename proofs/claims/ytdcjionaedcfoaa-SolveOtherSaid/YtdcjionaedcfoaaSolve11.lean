/- Walks of layer 7 (solve): by, where there is nothing to mend. -/
import Derived.Test.YtdcjionaedcfoaaSolve10
import Derived.Test.YtdcjionaedcfoaaRange3
set_option linter.unusedVariables false
set_option linter.unusedSimpArgs false
namespace Go.Proofs.Ytdcjionaedcfoaa.Solve
open Go.RowKit Go.Proofs.Ytdcjionaedcfoaa.L Go.Proofs.Ytdcjionaedcfoaa.Gf Go.Proofs.Ytdcjionaedcfoaa.Poly Go.Proofs.Ytdcjionaedcfoaa.Rs Go.Proofs.Ytdcjionaedcfoaa.Range

theorem by_nil (word er fv : Value) (w : World) : Calls Try.prog 111 #[.pointer none, word, er, fv] w fun e w' => e = .returned (.tuple #[.slice none 0 0, .slice none 0 0, I 1]) ∧ Below w.heap.size w w' := by
  go_enter Try.func111, Try.ntmps111
  go_wp2_with (first | (go_at_call 115; refine (syn_nil _ _).mono ?_; rintro e w' ⟨rfl, rfl⟩) | (go_at_call 120; refine (size_nil _).mono ?_; rintro e w' ⟨rfl, rfl⟩))
  go_ret3
  exact ⟨rfl, alloc_below _ _⟩
set_option maxRecDepth 100000 in
theorem by_short (c p n k : Nat) (A : Option Addr) (m cc : Nat) (A2 : Option Addr) (n2 c2 : Nat) (er fv : Value) (w : World) (hc : CodeAt w c p n k A m cc) (hn : n2 ≠ n) :
    Calls Try.prog 111 #[.pointer (some ⟨c, 0, none⟩), .slice A2 n2 c2, er, fv] w fun e w' => e = .returned (.tuple #[.slice none 0 0, .slice none 0 0, I 1]) ∧ Below w.heap.size w w' := by
  have HC := As.mk hc; clear hc
  have HN := As.mk hn; clear hn
  go_enter Try.func111, Try.ntmps111
  go_wp2_with (first | (go_at_call 115; refine (syn_bad c p n k A m cc A2 n2 c2 _ HC.out HN.out).mono ?_; rintro e w' ⟨rfl, rfl⟩) | (go_at_call 120; refine (size_any c p n k A m cc _ HC.out).mono ?_; rintro e w1 ⟨rfl, hb1⟩; have HB1 := As.mk hb1; clear hb1))
  go_ret3
  exact ⟨rfl, below_alloc HB1.out _⟩

/-! ### The places that are erased -/
def outB (n : Nat) (i : Int) : Bool := decide (i < 0) || decide ((n : Int) ≤ i)
theorem by1_any (g n : Nat) (i : Int) (w : World) (hc : w.cell? ⟨g, 0, none⟩ = some (I n)) :
    Calls Try.prog 150 #[I i, .pointer (some ⟨g, 0, none⟩)] w fun e w' => e = .returned (.bool (outB n i)) ∧ w = w' := by
  by_cases h : i < 0
  · have e1 : decide (i < 0) = true := decide_eq_true h
    have H : As (outB n i = true) := ⟨by simp [outB, h]⟩
    go_enter Try.func150, Try.ntmps150
    go_wp2
    go_ret
    exact ⟨by rw [H.out]; rfl, rfl⟩
  · have e1 : decide (i < 0) = false := decide_eq_false h
    by_cases h2 : (n : Int) ≤ i
    · have e2 : decide ((n : Int) ≤ i) = true := decide_eq_true h2
      have H : As (outB n i = true) := ⟨by simp [outB, h2]⟩
      clear h h2
      go_enter Try.func150, Try.ntmps150
      go_wp2
      go_ret
      exact ⟨by rw [H.out]; rfl, rfl⟩
    · have e2 : decide ((n : Int) ≤ i) = false := decide_eq_false h2
      have H : As (outB n i = false) := ⟨by simp [outB, e1, e2]⟩
      clear h h2
      go_enter Try.func150, Try.ntmps150
      go_wp2
      go_ret
      exact ⟨by rw [H.out]; rfl, rfl⟩
theorem by1_enters (args : Array Value) (w : World) : (callFunc 150 args).run Try.prog w = .ok (.enter 150 args) w := by kernel_rfl
def IdxP (p : Int → Bool) (xs : List Int) (w : World) (e : Ending) (w' : World) : Prop := ∃ z : Int, e = .returned (I z) ∧ decide (0 ≤ z) = xs.any p ∧ w = w'
set_option maxRecDepth 100000 in
theorem indexFunc_int (g b : Nat) (p : Int → Bool) (w : World) (he : ∀ args w, (callFunc g args).run Try.prog w = .ok (.enter g args) w) (hg : ∀ x, Calls Try.prog g #[I x, .pointer (some ⟨b, 0, none⟩)] w fun e w' => e = .returned (.bool (p x)) ∧ w = w') (A : Option Addr) (n c : Nat) (xs : List Int) (hl : Rd I w A n xs) :
    Calls Try.prog 199 #[.slice A n c, .func (.func g) #[] #[.pointer (some ⟨b, 0, none⟩)]] w (IdxP p xs w) := by
  have hle := hl.le
  have HL := As.mk hl; clear hl
  have HG := As.mk hg; clear hg
  go_enter Try.func199, Try.ntmps199
  go_wp2_with fail
  go_loop [8] (fun i => ∃ k : Nat, k ≤ n ∧ i = .int .i64 k ∧ ∀ (j : Nat) (y : Int), j < k → xs[j]? = some y → p y = false) (fun i => n - (intOf i).toNat)
  case atStart => exact ⟨0, by omega, rfl, fun j y hj => by omega⟩
  case round =>
    obtain ⟨k, hk, rfl, hb⟩ := hrel
    by_cases hlt : k < n
    · obtain ⟨ad, rfl, x, hx, hc⟩ := HL.out.at_ k hlt
      cases hp : p x with
      | true =>
        have H : As (xs.any p = true) := ⟨List.any_eq_true.2 ⟨x, List.mem_of_getElem? hx, hp⟩⟩
        have Hp := As.mk hp
        clear hx hb hp
        go_wp2_with ((with_reducible refine (HG.out x).mono ?_); rw [Hp.out]; rintro e w' ⟨rfl, rfl⟩)
        go_ret
        exact ⟨k, rfl, by rw [H.out]; exact decide_eq_true (by omega), rfl⟩
      | false =>
        have H : As (∀ (j : Nat) (y : Int), j < k + 1 → xs[j]? = some y → p y = false) := ⟨fun j y hj hy => by
          by_cases e : j = k
          · subst e; rw [hx] at hy; cases hy; exact hp
          · exact hb j y (by omega) hy⟩
        have Hp := As.mk hp
        clear hx hb hp
        go_wp2_with ((with_reducible refine (HG.out x).mono ?_); rw [Hp.out]; rintro e w' ⟨rfl, rfl⟩)
        go_round
        case rel => exact ⟨k + 1, by omega, by go_num, H.out⟩
        case measure => simp [intOf]; omega
    · have e : k = xs.length := by have := HL.out.len; omega
      have H : As (xs.any p = false) := ⟨by
        rw [List.any_eq_false]
        intro x hx
        obtain ⟨j, hj, hy⟩ := List.getElem_of_mem hx
        rw [hb j x (by omega) (by rw [List.getElem?_eq_getElem hj, hy])]
        simp⟩
      clear hb
      go_wp2
      go_ret
      exact ⟨-1, rfl, by rw [H.out]; rfl, rfl⟩
set_option maxRecDepth 100000 in
theorem containsFunc_int (g b : Nat) (p : Int → Bool) (w : World) (he : ∀ args w, (callFunc g args).run Try.prog w = .ok (.enter g args) w) (hg : ∀ x, Calls Try.prog g #[I x, .pointer (some ⟨b, 0, none⟩)] w fun e w' => e = .returned (.bool (p x)) ∧ w = w') (A : Option Addr) (n c : Nat) (xs : List Int) (hl : Rd I w A n xs) :
    Calls Try.prog 151 #[.slice A n c, .func (.func g) #[] #[.pointer (some ⟨b, 0, none⟩)]] w fun e w' => e = .returned (.bool (xs.any p)) ∧ w = w' := by
  have HL := As.mk hl; clear hl
  have HE := As.mk he; clear he
  have HG := As.mk hg; clear hg
  go_enter Try.func151, Try.ntmps151
  go_wp2_with fail
  refine (indexFunc_int g b p w HE.out HG.out A n c xs HL.out).mono ?_
  rintro e w' ⟨z, rfl, hm, rfl⟩
  have H := As.mk hm
  clear hm
  go_wp2_with fail
  go_ret
  exact ⟨by rw [← H.out]; rfl, rfl⟩
theorem contains_out (g n : Nat) (A : Option Addr) (m c : Nat) (xs : List Int) (w : World) (hc : w.cell? ⟨g, 0, none⟩ = some (I n)) (hl : Rd I w A m xs) :
    Calls Try.prog 151 #[.slice A m c, .func (.func 150) #[] #[.pointer (some ⟨g, 0, none⟩)]] w fun e w' => e = .returned (.bool (xs.any (outB n))) ∧ w = w' :=
  containsFunc_int 150 g (outB n) w by1_enters (fun x => by1_any g n x w hc) A m c xs hl
end Go.Proofs.Ytdcjionaedcfoaa.Solve
