/- Walks: slices.Grow, Concat, ContainsFunc at []byte. -/
import Derived.Test.YtdcjionaedcfoaaPoly4
set_option linter.unusedVariables false
set_option linter.unusedSimpArgs false
namespace Go.Proofs.Ytdcjionaedcfoaa.Poly
open Go.RowKit Go.Proofs.Ytdcjionaedcfoaa.L Go.Proofs.Ytdcjionaedcfoaa.Gf

theorem ownV_take {w : World} {base size n c k : Nat} {t : TypeId} {A : Option Addr} {us : List Value} (h : w.ownsRow base t size (.slice A n c) n us) (hk : k ≤ n) :
    w.ownsRow base t size (.slice A k c) k (us.take (k * size)) := by
  have hl := h.1
  have hks : k * size ≤ n * size := Nat.mul_le_mul_right _ hk
  refine ⟨by rw [List.length_take, hl]; exact Nat.min_eq_left hks, ?_⟩
  rcases h.2 with ⟨he, h0⟩ | ⟨g, cap, cur, he, hb, hh, h1, h2, h3, h4⟩
  · cases he
    exact .inl ⟨by have : k = 0 := by omega
                   rw [this], by omega⟩
  · injection he with e1 e2 e3
    subst e1 e3
    exact .inr ⟨g, c, cur, rfl, hb, hh, by omega, h2, h3, by rw [← h4, List.take_take, Nat.min_eq_left hks]⟩

set_option maxRecDepth 100000 in
theorem grow_nil (m : Nat) (w : World) (hm : m ≤ 140737488351232) : Calls Try.prog 165 #[.slice none 0 0, I m] w (RetB w []) := by
  by_cases h0 : m = 0
  · subst h0
    clear hm
    go_enter Try.func165, Try.ntmps165
    go_wp2_with fail
    go_ret
    exact ⟨none, 0, 0, rfl, Own.nil _ _ _ _, fun _ => rfl, Nat.le_refl _, Below.refl _ _⟩
  · go_enter Try.func165, Try.ntmps165
    go_wp2_with (at_builtin; refine appendzero_event w w.heap.size 39 3 5 (.int .u8 0) 1 _ _ rfl rfl Try.underlying39 Try.underlying3 info_u8 rfl rfl _ 0 [] m rfl rfl (ownV_nil _ _ _ _) (Below.refl _ _) (Nat.le_refl _) (by omega) (by decide) m (Nat.zero_add m) _ (List.nil_append _) ?_; intro A' c' w2 hown hA hC hb hg hat)
    go_ret
    exact ⟨A', 0, c', rfl, Own.of_row (xs := []) (by simpa using ownV_take (k := 0) hown.out (by omega)), hA.out, by omega, hb.out⟩

theorem containsFunc_any (g : FuncId) (p : UInt8 → Bool) (he : ∀ args w, (callFunc g args).run Try.prog w = .ok (.enter g args) w) (hg : ∀ x w, Calls Try.prog g #[B x] w fun e w' => e = .returned (.bool (p x)) ∧ w = w') (A : Option Addr) (n c : Nat) (xs : List UInt8) (w : World) (hl : Rd B w A n xs) :
    Calls Try.prog 116 #[.slice A n c, .func (.func g) #[] #[]] w fun e w' => e = .returned (.bool (xs.any p)) ∧ w = w' := by
  have HI := As.mk (fun c w h => indexFunc_any g p he hg A n c xs w h)
  have HL := As.mk hl
  have H : As (decide (0 ≤ idxI p xs) = xs.any p) := ⟨by
    rw [idxI]
    cases h : idxOf p xs with
    | none =>
      have : xs.any p = false := by
        clear HI HL hl
        induction xs with
        | nil => rfl
        | cons a l ih =>
          rw [idxOf] at h
          split at h
          · cases h
          · rename_i h1
            rw [List.any_cons, ih (by simpa using h)]
            simp [h1]
      rw [this]; rfl
    | some i =>
      have : xs.any p = true := by
        clear HI HL hl
        induction xs generalizing i with
        | nil => cases h
        | cons a l ih =>
          rw [idxOf] at h
          split at h
          · rename_i h1; simp [h1]
          · obtain ⟨j, hj, rfl⟩ := Option.map_eq_some_iff.1 h
            rw [List.any_cons, ih j hj]; simp
      rw [this]; simp⟩
  clear hl he hg
  generalize idxI p xs = z at *
  go_enter Try.func116, Try.ntmps116
  go_wp2_with (go_at_call 91; refine (HI.out _ _ HL.out).mono ?_; rintro e w' ⟨rfl, rfl⟩)
  go_ret
  exact ⟨by rw [← H.out]; rfl, rfl⟩

/-! ### Concat -/
theorem lens_take (l : List (List UInt8)) (k : Nat) (x : List UInt8) (h : l[k]? = some x) : lens (l.take (k + 1)) = lens (l.take k) + x.length := by
  rw [lens, List.take_add_one, h]; simp [lens]
theorem lens_le (l : List (List UInt8)) (k : Nat) : lens (l.take k) ≤ lens l := by
  have h : lens (l.take k ++ l.drop k) = lens (l.take k) + lens (l.drop k) := by simp only [lens, List.map_append, List.sum_append]
  rw [List.take_append_drop] at h
  omega
theorem flat_take (l : List (List UInt8)) (k : Nat) (x : List UInt8) (h : l[k]? = some x) : (l.take (k + 1)).flatten = (l.take k).flatten ++ x := by
  rw [List.take_add_one, h]; simp
theorem flat_len (l : List (List UInt8)) : l.flatten.length = lens l := by simp [lens, List.length_flatten]
set_option maxRecDepth 100000 in
set_option maxHeartbeats 1000000 in
theorem concat_any (A : Option Addr) (n c : Nat) (ls : List (List UInt8)) (w : World) (hle : n ≤ 9223372036854775807) (hs : lens ls ≤ 140737488351232) (hl : RdL w A n ls) :
    Calls Try.prog 119 #[.slice A n c] w (RetB w ls.flatten) := by
  have HL := As.mk hl; clear hl
  have HS := As.mk hs
  go_enter Try.func119, Try.ntmps119
  go_wp2_with fail
  go_loop [3, 11] (fun s i => ∃ k : Nat, k ≤ n ∧ i = .int .i64 k ∧ s = I (lens (ls.take k))) (fun _ i => n - (intOf i).toNat)
  case atStart => exact ⟨0, by omega, rfl, rfl⟩
  case round =>
    obtain ⟨k, hk, rfl, rfl⟩ := hrel
    by_cases hlt : k < n
    · obtain ⟨ad, rfl, l, A2, m2, c2, hy, hm2, hc, hC2, hR2⟩ := HL.out.at_ k hlt
      have h1 := lens_take ls k l hy
      rw [← hm2] at h1
      have h2 := lens_le ls (k + 1)
      have H1 := As.mk h1
      have hb : lens (ls.take k) + m2 ≤ 140737488351232 := by omega
      clear hy hm2 hR2 h1 h2 HL
      generalize lens (ls.take k) = s at *
      go_wp2_with fail
      go_round
      case rel => exact ⟨k + 1, by omega, by go_num, by rw [H1.out]; go_num⟩
      case measure => simp [intOf]; omega
    · have e : k = n := by omega
      have HT : As (ls.take k = ls) := ⟨by rw [e, ← HL.out.len, List.take_length]⟩
      rw [HT.out]
      subst e
      clear HT
      go_wp2_with (go_at_call 165; refine (grow_nil (lens ls) _ (by omega)).mono ?_; rintro e w1 ⟨A1, m1, c1, rfl, hown1, hA1, hC1, hb1⟩; have HO1 := As.mk hown1; have HA1 := As.mk hA1; have HC1 := As.mk hC1; have HB1 := As.mk hb1; clear hown1 hA1 hC1 hb1)
      go_loopw [6, 27] (fun o i wr => ∃ (k2 : Nat) (A' : Option Addr) (m c' : Nat), k2 ≤ k ∧ i = .int .i64 k2 ∧ o = .slice A' m c' ∧ Own B 5 wr w.heap.size (.slice A' m c') (ls.take k2).flatten ∧ (A' = none → c' = 0) ∧ m ≤ c' ∧ Below w.heap.size w wr) (fun _ i _ => k - (intOf i).toNat)
      case atStart => exact ⟨0, A1, m1, c1, by omega, rfl, rfl, HO1.out, HA1.out, HC1.out, HB1.out⟩
      case round =>
        obtain ⟨k2, A', m, c', hk2, rfl, rfl, hown, hA, hC, hbl⟩ := hrel
        have HOW := As.mk hown; clear hown
        have HA := As.mk hA; clear hA
        have HC := As.mk hC; clear hC
        have HBL := As.mk hbl; clear hbl
        clear HO1 HA1 HC1 HB1
        by_cases hlt2 : k2 < k
        · obtain ⟨ad, rfl, l, A2, m2, c2, hy, hm2, hc, hC2, hR2⟩ := (HL.out.below HBL.out).at_ k2 hlt2
          have h1 := lens_take ls k2 l hy
          rw [← hm2] at h1
          have h2 := lens_le ls (k2 + 1)
          have h3 := HOW.out.rd'.1
          rw [flat_len] at h3
          have hb : (m + m2) * 1 ≤ 140737488355328 := by omega
          have HF := As.mk (flat_take ls k2 l hy)
          have HR2 := As.mk hR2
          have HA2 := As.mk hC2.2
          have HE : As ((ls.take k2).flatten.map B ++ l.map B = (ls.take (k2 + 1)).flatten.map B) := ⟨by rw [HF.out, List.map_append]⟩
          clear hy hm2 hR2 h1 h2 h3 HL HF hC2
          go_wp2_with (at_builtin; refine append_event w w.heap.size 39 5 (.int .u8 0) 1 1 _ _ rfl rfl Try.underlying39 info_u8 rfl (by decide) _ m _ A2 m2 c2 (l.map B) rfl rfl HA2.out HOW.out.row HR2.out (oneB l) HBL.out HBL.out.size hb (by decide) (m + m2) rfl _ HE.out ?_; intro A3 c3 w3 hown3 hA3 hC3 hb3 hg3 _)
          go_roundw
          case rel => exact ⟨k2 + 1, A3, m + m2, c3, by omega, by go_num, rfl, Own.of_row hown3.out, hA3.out, hC3.out, hb3.out⟩
          case measure => simp [intOf]; omega
        · have e : k2 = k := by omega
          have HT : As ((ls.take k2).flatten = ls.flatten) := ⟨by rw [e, ← HL.out.len, List.take_length]⟩
          have HO := HOW
          go_wp2_with fail
          go_ret
          exact ⟨A', m, c', rfl, by rw [← HT.out]; exact HOW.out, HA.out, HC.out, HBL.out⟩
end Go.Proofs.Ytdcjionaedcfoaa.Poly
