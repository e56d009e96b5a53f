/- The search of Berlekamp and Massey finds the shortest recurrence: plainly. -/
import Derived.Test.YtdcjionaedcfoaaPp
set_option linter.unusedVariables false
set_option linter.unusedSimpArgs false
namespace Go.Proofs.Ytdcjionaedcfoaa.Gf
open K

theorem co_shift (q : List K) (n : Nat) : co (0 :: q) (n + 1) = co q n := co_succ _ _ _
theorem co_pm_shift (q T : List K) (n : Nat) : co (pm (0 :: q) T) (n + 1) = co (pm q T) n := by
  rw [pm_shift_left q T (n + 1), co_succ]
theorem co_pm_sc (c : K) (q T : List K) (n : Nat) : co (pm (psc c q) T) n = c * co (pm q T) n := by
  rw [pm_sc_left c q T n, co_psc]
theorem co_pm_add (p q T : List K) (n : Nat) : co (pm (padd p q) T) n = co (pm p T) n + co (pm q T) n := by
  rw [pm_add_left p q T n, co_padd]
theorem shift_sc (c : K) (q : List K) : Eqv (0 :: psc c q) (psc c (0 :: q)) := fun n => by
  rw [co_psc]
  match n with
  | 0 => rw [co_zero, co_zero, mul_zero]
  | n + 1 => rw [co_succ, co_succ, co_psc]
theorem pm_swap (p q r : List K) : Eqv (pm p (pm q r)) (pm q (pm p r)) :=
  (pm_assoc p q r).symm.trans ((pm_eqv (pm_comm p q) (Eqv.refl r)).trans (pm_assoc q p r))

/-- E makes the values of T from e on, N of them, out of t ahead of each. -/
def Makes (T : List K) (e : Nat) (E : List K) (t N : Nat) : Prop := co E 0 = 1 ∧ Deg E (t + 1) ∧ ∀ k, t ≤ k → k < N → co (pm E T) (e + k) = 0
/-- What holds while the search goes on: C makes N values, L long; B is the last one that fell short. -/
structure BmInv (T : List K) (e N : Nat) (C B : List K) (L : Nat) : Prop where
  c0 : co C 0 = 1
  c1 : Deg C (L + 1)
  c2 : ∀ k, L ≤ k → k < N → co (pm C T) (e + k) = 0
  c3 : L ≤ N
  b1 : Deg B (N - L + 1)
  b2 : ∀ k, N + 1 - L ≤ k → k < N → co (pm (0 :: B) T) (e + k) = 0
  b3 : L = 0 ∨ co (pm (0 :: B) T) (e + N) = 1
theorem bm_start (T : List K) (e : Nat) : BmInv T e 0 [1] [1] 0 :=
  ⟨rfl, deg_len [1], fun k h1 h2 => by omega, Nat.le_refl _, deg_len [1], fun k h1 h2 => by omega, .inl rfl⟩
/-- The gap is nought. -/
theorem bm_same {T : List K} {e N : Nat} {C B : List K} {L : Nat} (h : BmInv T e N C B L) (hd : co (pm C T) (e + N) = 0) : BmInv T e (N + 1) C (0 :: B) L where
  c0 := h.c0
  c1 := h.c1
  c2 := fun k h1 h2 => by
    by_cases e1 : k = N
    · subst e1; exact hd
    · exact h.c2 k h1 (by omega)
  c3 := by have := h.c3; omega
  b1 := by have := h.c3; exact (h.b1.cons 0).mono (by omega)
  b2 := fun k h1 h2 => by
    have := h.c3
    obtain ⟨j, rfl⟩ : ∃ j, k = j + 1 := ⟨k - 1, by omega⟩
    rw [← Nat.add_assoc, co_pm_shift]; exact h.b2 j (by omega) (by omega)
  b3 := h.b3.imp id fun hb => by rw [← Nat.add_assoc, co_pm_shift]; exact hb
theorem co_new (T : List K) (C B : List K) (d : K) (n : Nat) : co (pm (padd C (psc d (0 :: B))) T) n = co (pm C T) n + d * co (pm (0 :: B) T) n := by
  rw [co_pm_add, co_pm_sc]
/-- The gap isn't nought, and the recurrence is long enough. -/
theorem bm_keep {T : List K} {e N : Nat} {C B : List K} {L : Nat} (h : BmInv T e N C B L) (d : K) (hd : co (pm C T) (e + N) = d) (hL : N < 2 * L) : BmInv T e (N + 1) (padd C (psc d (0 :: B))) (0 :: B) L where
  c0 := by rw [co_padd, co_psc, co_zero, mul_zero, add_zero]; exact h.c0
  c1 := h.c1.padd (((h.b1.cons 0).psc d).mono (by have := h.c3; omega))
  c2 := fun k h1 h2 => by
    rw [co_new]
    by_cases e1 : k = N
    · subst e1; rw [hd, h.b3.resolve_left (by omega), mul_one, add_self]
    · rw [h.c2 k h1 (by omega), h.b2 k (by omega) (by omega), mul_zero, add_zero]
  c3 := by have := h.c3; omega
  b1 := by have := h.c3; exact (h.b1.cons 0).mono (by omega)
  b2 := fun k h1 h2 => by
    have := h.c3
    obtain ⟨j, rfl⟩ : ∃ j, k = j + 1 := ⟨k - 1, by omega⟩
    rw [← Nat.add_assoc, co_pm_shift]; exact h.b2 j (by omega) (by omega)
  b3 := h.b3.imp id fun hb => by rw [← Nat.add_assoc, co_pm_shift]; exact hb
/-- The gap isn't nought: the recurrence gets longer. -/
theorem bm_grow {T : List K} {e N : Nat} {C B : List K} {L : Nat} (h : BmInv T e N C B L) (d : K) (hd : co (pm C T) (e + N) = d) (h0 : d ≠ 0) (hL : 2 * L ≤ N) : BmInv T e (N + 1) (padd C (psc d (0 :: B))) (psc (inv d) C) (N + 1 - L) where
  c0 := by rw [co_padd, co_psc, co_zero, mul_zero, add_zero]; exact h.c0
  c1 := (h.c1.mono (by omega)).padd (((h.b1.cons 0).psc d).mono (by omega))
  c2 := fun k h1 h2 => by
    rw [co_new]
    by_cases e1 : k = N
    · subst e1; rw [hd, h.b3.resolve_left (by omega), mul_one, add_self]
    · rw [h.c2 k (by omega) (by omega), h.b2 k (by omega) (by omega), mul_zero, add_zero]
  c3 := by omega
  b1 := (h.c1.psc _).mono (by omega)
  b2 := fun k h1 h2 => by
    obtain ⟨j, rfl⟩ : ∃ j, k = j + 1 := ⟨k - 1, by omega⟩
    rw [← Nat.add_assoc, co_pm_shift, co_pm_sc, h.c2 j (by omega) (by omega), mul_zero]
  b3 := .inr (by rw [← Nat.add_assoc, co_pm_shift, co_pm_sc, hd, inv_mul h0])
/-- Nothing shorter makes more. -/
theorem bm_long {T : List K} {e N : Nat} {C B : List K} {L : Nat} (h : BmInv T e N C B L) (h0 : co (pm C T) (e + N) ≠ 0) {E : List K} {t M : Nat} (hE : Makes T e E t M) (hN : N < M) : N + 1 - L ≤ t := by
  apply Classical.byContradiction
  intro hlt
  have hz : co (pm C (pm E T)) (e + N) = 0 := by
    rw [co_pm]
    refine sumK_zero fun i hi => ?_
    by_cases hi2 : L + 1 ≤ i
    · rw [h.c1 i hi2, zero_mul]
    · rw [show e + N - i = e + (N - i) by omega, hE.2.2 (N - i) (by omega) (by omega), mul_zero]
  have hn : co (pm E (pm C T)) (e + N) = co (pm C T) (e + N) := by
    rw [co_pm, sumK_head, sumK_zero, hE.1, one_mul, add_zero]; rfl
    intro i hi
    by_cases hi2 : t + 1 ≤ i + 1
    · by_cases hi3 : t + 1 ≤ i
      · rw [hE.2.1 (i + 1) (by omega), zero_mul]
      · have : i = t := by omega
        rw [hE.2.1 (i + 1) (by omega), zero_mul]
    · rw [show e + N - (i + 1) = e + (N - (i + 1)) by omega, h.c2 (N - (i + 1)) (by omega) (by omega), mul_zero]
  exact h0 (by rw [← hn, ← pm_swap C E T, hz])
/-- The lower part. -/
def low (p : List K) (m : Nat) : List K := p.take m
theorem co_low (p : List K) (m n : Nat) : co (low p m) n = if n < m then co p n else 0 := by
  rw [low, co, co, List.getD_eq_getElem?_getD, List.getD_eq_getElem?_getD, List.getElem?_take]
  split <;> rfl
theorem deg_low (p : List K) (m : Nat) : Deg (low p m) m := fun i hi => by rw [co_low, if_neg (by omega)]
/-- At the end each root of E at which what E leaves isn't nought is a root of C. -/
theorem bm_end {T : List K} {e N : Nat} {C B : List K} {L : Nat} (h : BmInv T e N C B L) {E : List K} {t : Nat} (hE : Makes T e E t N) (hL : L ≤ t) (ht : 2 * t ≤ N) (x : K) (hx : ev E x = 0) (hne : ev (low (pm E T) (e + t)) x ≠ 0) : ev C x = 0 := by
  have hlow : ∀ (m : Nat) (U V : List K) (hz : ∀ n, m ≤ n → n < e + N → co V n = 0) (n : Nat), n < e + N → co (pm U (low V m)) n = co (pm U V) n := by
    intro m U V hz n hn
    rw [co_pm, co_pm]
    refine sumK_congr fun i hi => ?_
    rw [co_low]
    split
    · rfl
    · rw [hz (n - i) (by omega) (by omega)]
  have h1 : ∀ n, e + t ≤ n → n < e + N → co (pm E T) n = 0 := fun n a b => by
    have := hE.2.2 (n - e) (by omega) (by omega)
    rwa [show e + (n - e) = n by omega] at this
  have h2 : ∀ n, e + L ≤ n → n < e + N → co (pm C T) n = 0 := fun n a b => by
    have := h.c2 (n - e) (by omega) (by omega)
    rwa [show e + (n - e) = n by omega] at this
  have key : Eqv (pm C (low (pm E T) (e + t))) (pm E (low (pm C T) (e + L))) := fun n => by
    by_cases hn : n < e + N
    · rw [hlow _ _ _ h1 n hn, hlow _ _ _ h2 n hn, pm_swap C E T n]
    · rw [(h.c1.pm (deg_low _ _)) n (by omega), (hE.2.1.pm (deg_low _ _)) n (by omega)]
  have he := ev_eqv key x
  rw [ev_pm, ev_pm, hx, zero_mul] at he
  exact (mul_eq_zero he).resolve_right hne
end Go.Proofs.Ytdcjionaedcfoaa.Gf
