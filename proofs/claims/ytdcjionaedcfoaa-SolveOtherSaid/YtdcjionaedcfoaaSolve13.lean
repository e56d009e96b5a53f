/- Walks of layer 7 (solve): Mend, Within. -/
import Derived.Test.YtdcjionaedcfoaaSolve12
set_option linter.unusedVariables false
set_option linter.unusedSimpArgs false
namespace Go.Proofs.Ytdcjionaedcfoaa.Solve
open Go.RowKit Go.Proofs.Ytdcjionaedcfoaa.L Go.Proofs.Ytdcjionaedcfoaa.Gf Go.Proofs.Ytdcjionaedcfoaa.Poly Go.Proofs.Ytdcjionaedcfoaa.Rs Go.Proofs.Ytdcjionaedcfoaa.Range

theorem searchL_len (s : List UInt8) (e : Nat) : ∀ (q r : Nat) (l : Int) (loc last : List UInt8) (b : Nat), loc.length ≤ b → last.length ≤ b → (searchL s e q r l loc last).2.length ≤ b + q
  | 0, r, l, loc, last, b, h1, h2 => by rw [searchL]; exact h1
  | q + 1, r, l, loc, last, b, h1, h2 => by
    have hp : (pplus loc last (pgap loc s (r : Int))).length ≤ b + 1 := by rw [pplus_len]; omega
    have hz : ((0 : UInt8) :: last).length ≤ b + 1 := by simp; omega
    rw [searchL]
    split
    · have := searchL_len s e q (r + 1) l loc (0 :: last) (b + 1) (by omega) hz; omega
    · split
      · have := searchL_len s e q (r + 1) ((r : Int) + e - l) (pplus loc last (pgap loc s (r : Int))) (pscaled loc (ginv (pgap loc s (r : Int)))) (b + 1) hp (by rw [pscaled_len]; omega); omega
      · have := searchL_len s e q (r + 1) l (pplus loc last (pgap loc s (r : Int))) (0 :: last) (b + 1) hp hz; omega
theorem search_way : SearchFn 112 psearch := by
  refine ⟨fun _ _ => by kernel_rfl, fun s m pp loc h1 h2 h3 => ?_, ?_⟩
  · have := searchL_len s m (pp - m) (m + 1) (m : Int) loc loc (m + 1) (by omega) (by omega)
    unfold psearch; omega
  · intro v p n pp A3 A4 m3 c3 m4 c4 s loc0 w hloc hp hpp hm4 hmc hsl hl3 hA3 hlen
    exact search_any v p n pp A3 A4 m3 c3 m4 c4 s loc0 w hloc hp hpp hm4 hl3 hA3 (by omega)
theorem mend_nil (A : Option Addr) (n c : Nat) (er : Value) (w : World) : Calls Try.prog 60 #[.pointer none, .slice A n c, er] w fun e w' => e = .returned (.tuple #[.slice none 0 0, .slice none 0 0, I 1]) ∧ Below w.heap.size w w' := by
  go_enter Try.func60, Try.ntmps60
  go_wp2_with (go_at_call 111; refine (by_nil _ _ _ _).mono ?_; rintro e w1 ⟨rfl, hb1⟩; have HB1 := As.mk hb1; clear hb1)
  go_ret3
  exact ⟨rfl, HB1.out⟩
theorem mend_short (c p n k : Nat) (A : Option Addr) (m cc : Nat) (A2 : Option Addr) (n2 c2 : Nat) (er : Value) (w : World) (hc : CodeAt w c p n k A m cc) (hn : n2 ≠ n) :
    Calls Try.prog 60 #[.pointer (some ⟨c, 0, none⟩), .slice A2 n2 c2, er] w fun e w' => e = .returned (.tuple #[.slice none 0 0, .slice none 0 0, I 1]) ∧ Below w.heap.size w w' := by
  have HC := As.mk hc; clear hc
  have HN := As.mk hn; clear hn
  go_enter Try.func60, Try.ntmps60
  go_wp2_with (go_at_call 111; refine (by_short c p n k A m cc A2 n2 c2 _ _ _ HC.out HN.out).mono ?_; rintro e w1 ⟨rfl, hb1⟩; have HB1 := As.mk hb1; clear hb1)
  go_ret3
  exact ⟨rfl, HB1.out⟩
set_option maxRecDepth 100000 in
theorem mend_all (c p n k : Nat) (A : Option Addr) (m cc : Nat) (A2 A3 : Option Addr) (c2 m3 c3 : Nat) (word : List UInt8) (er : List Int) (w : World) (hc : CodeAt w c p n k A m cc) (hl : Rd B w A2 n word) (hl3 : Rd I w A3 m3 er) (hm3 : m3 ≤ 1000000) :
    Calls Try.prog 60 #[.pointer (some ⟨c, 0, none⟩), .slice A2 n c2, .slice A3 m3 c3] w (RetX w (pmendall psearch n k word er)) := by
  have HA := As.mk (by_all c p n k A m cc A2 A3 c2 m3 c3 112 psearch word er w hc hl hl3 hm3 search_way)
  clear hc hl hl3 hm3
  generalize pmendall psearch n k word er = r at *
  go_enter Try.func60, Try.ntmps60
  go_wp2_with fail
  refine HA.out.mono ?_
  rintro e w1 ⟨hb, A4, m4, c4, A5, m5, c5, rfl, h1, h2, h3, h4⟩
  have HB := As.mk hb
  have H1 := As.mk h1
  have H2 := As.mk h2
  have H3 := As.mk h3
  have H4 := As.mk h4
  clear hb h1 h2 h3 h4
  go_wp2_with fail
  go_ret3
  exact ⟨HB.out, A4, m4, c4, A5, m5, c5, rfl, H1.out, H2.out, H3.out, H4.out⟩
theorem within_nil (a b : Int) (w : World) : Calls Try.prog 66 #[.pointer none, I a, I b] w fun e w' => e = .returned (.bool false) ∧ w = w' := by
  go_enter Try.func66, Try.ntmps66
  go_wp2_with (go_at_call 120; refine (size_nil _).mono ?_; rintro e w' ⟨rfl, rfl⟩)
  go_ret
  exact ⟨rfl, rfl⟩
end Go.Proofs.Ytdcjionaedcfoaa.Solve
