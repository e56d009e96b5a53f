/- Walks of layer 7 (solve): Other. -/
import Derived.Test.YtdcjionaedcfoaaOther
import Derived.Test.YtdcjionaedcfoaaLawS2
set_option linter.unusedVariables false
set_option linter.unusedSimpArgs false
namespace Go.Proofs.Ytdcjionaedcfoaa.Solve
open Go.RowKit Go.Proofs.Ytdcjionaedcfoaa.L Go.Proofs.Ytdcjionaedcfoaa.Gf Go.Proofs.Ytdcjionaedcfoaa.Gf.K Go.Proofs.Ytdcjionaedcfoaa.Poly Go.Proofs.Ytdcjionaedcfoaa.Rs Go.Proofs.Ytdcjionaedcfoaa.Range

theorem eloop_len (T : List K) (p lim : Nat) (hp : p ≤ 64) : ∀ (f : Nat) (a b x y : List UInt8), EInv T p a b x y → (eloop lim f a b x y).length ≤ p + 2
  | 0, a, b, x, y, h => by rw [eloop]; have := h.ly; omega
  | f + 1, a, b, x, y, h => by
    rw [eloop]
    split
    · next hc =>
      rw [h.tb] at hc
      by_cases hb : b = []
      · subst hb
        simp at hc; omega
      · exact eloop_len T p lim hp f _ _ _ _ (einv_step h hp hb)
    · have := h.ly; omega
theorem euclid_way : SearchFn 121 peuclid := by
  refine ⟨fun _ _ => by kernel_rfl, fun s m pp loc h1 h2 h3 => ?_, ?_⟩
  · unfold peuclid
    have h4 := eloop_len (hk (ptold s loc pp)) pp (pp + m) h2 (pp + 1) _ _ _ _ (einv_start s loc pp)
    generalize eloop (pp + m) (pp + 1) (pshift [1] pp) (ptold s loc pp) [] [1] = y at *
    have h5 := mul2_len1 y loc.reverse
    rw [List.length_reverse] at h5
    unfold pend
    split
    · show loc.length ≤ 1000; omega
    · show (pscaled _ _).length ≤ 1000
      rw [pscaled_len, List.length_reverse]; omega
  · intro v p n pp A3 A4 m3 c3 m4 c4 s loc0 w hloc hp hpp hm4 hmc hsl hl3 hA3 hlen
    exact euclid_any v p n pp A3 A4 m3 c3 m4 c4 s loc0 w hloc hp hpp hm4 (by have := hl3.len; omega) hl3 (by omega)
theorem other_nil (A : Option Addr) (n c : Nat) (er : Value) (w : World) : Calls Try.prog 67 #[.pointer none, .slice A n c, er] w fun e w' => e = .returned (.tuple #[.slice none 0 0, .slice none 0 0, I 1]) ∧ Below w.heap.size w w' := by
  go_enter Try.func67, Try.ntmps67
  go_wp2_with (go_at_call 111; refine (by_nil _ _ _ _).mono ?_; rintro e w1 ⟨rfl, hb1⟩; have HB1 := As.mk hb1; clear hb1)
  go_ret3
  exact ⟨rfl, HB1.out⟩
theorem other_short (c p n k : Nat) (A : Option Addr) (m cc : Nat) (A2 : Option Addr) (n2 c2 : Nat) (er : Value) (w : World) (hc : CodeAt w c p n k A m cc) (hn : n2 ≠ n) :
    Calls Try.prog 67 #[.pointer (some ⟨c, 0, none⟩), .slice A2 n2 c2, er] w fun e w' => e = .returned (.tuple #[.slice none 0 0, .slice none 0 0, I 1]) ∧ Below w.heap.size w w' := by
  have HC := As.mk hc; clear hc
  have HN := As.mk hn; clear hn
  go_enter Try.func67, Try.ntmps67
  go_wp2_with (go_at_call 111; refine (by_short c p n k A m cc A2 n2 c2 _ _ _ HC.out HN.out).mono ?_; rintro e w1 ⟨rfl, hb1⟩; have HB1 := As.mk hb1; clear hb1)
  go_ret3
  exact ⟨rfl, HB1.out⟩
set_option maxRecDepth 100000 in
theorem other_all (c p n k : Nat) (A : Option Addr) (m cc : Nat) (A2 A3 : Option Addr) (c2 m3 c3 : Nat) (word : List UInt8) (er : List Int) (w : World) (hc : CodeAt w c p n k A m cc) (hl : Rd B w A2 n word) (hl3 : Rd I w A3 m3 er) (hm3 : m3 ≤ 1000000) :
    Calls Try.prog 67 #[.pointer (some ⟨c, 0, none⟩), .slice A2 n c2, .slice A3 m3 c3] w (RetX w (pmendall peuclid n k word er)) := by
  have HA := As.mk (by_all c p n k A m cc A2 A3 c2 m3 c3 121 peuclid word er w hc hl hl3 hm3 euclid_way)
  clear hc hl hl3 hm3
  generalize pmendall peuclid n k word er = r at *
  go_enter Try.func67, Try.ntmps67
  go_wp2_with fail
  refine HA.out.mono ?_
  rintro e w1 ⟨hb, A4, m4, c4, A5, m5, c5, rfl, h1, h2, h3, h4⟩
  have HB := As.mk hb
  have H1 := As.mk h1
  have H2 := As.mk h2
  have H3 := As.mk h3
  have H4 := As.mk h4
  clear hb h1 h2 h3 h4
  go_wp2_with fail
  go_ret3
  exact ⟨HB.out, A4, m4, c4, A5, m5, c5, rfl, H1.out, H2.out, H3.out, H4.out⟩
theorem other_word (c p n k : Nat) (A : Option Addr) (m cc : Nat) (A2 A3 : Option Addr) (n2 c2 m3 c3 : Nat) (word : List UInt8) (er : List Int) (w : World) (hc : CodeAt w c p n k A m cc) (hl : Rd B w A2 n2 word) (hl3 : Rd I w A3 m3 er) (hm3 : m3 ≤ 1000000) :
    Calls Try.prog 67 #[.pointer (some ⟨c, 0, none⟩), .slice A2 n2 c2, .slice A3 m3 c3] w (RetX w (LawS.pmendX peuclid n k word er)) := by
  by_cases hn : n2 = n
  · subst hn
    rw [LawS.pmendX, if_pos hl.len]
    exact other_all c p n2 k A m cc A2 A3 c2 m3 c3 word er w hc hl hl3 hm3
  · rw [LawS.pmendX, if_neg (by rw [hl.len]; exact hn)]
    refine (other_short c p n k A m cc A2 n2 c2 _ w hc hn).mono ?_
    rintro e w' ⟨rfl, hb⟩
    exact retX_none w w' 1 _ hb rfl
end Go.Proofs.Ytdcjionaedcfoaa.Solve
