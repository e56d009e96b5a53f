/- The search as the program does it, and places, plainly. -/
import Derived.Test.YtdcjionaedcfoaaBmK
set_option linter.unusedVariables false
set_option linter.unusedSimpArgs false
namespace Go.Proofs.Ytdcjionaedcfoaa.Solve
open Go.Proofs.Ytdcjionaedcfoaa.Gf Go.Proofs.Ytdcjionaedcfoaa.Gf.K Go.Proofs.Ytdcjionaedcfoaa.Poly Go.Proofs.Ytdcjionaedcfoaa.Rs

/-! ### The search -/
/-- What the search ends in. -/
def Found (T G : List K) (e N t : Nat) (r : Int × List UInt8) : Prop :=
  ∃ (C B : List K) (L : Nat), r.1 = ((e + L : Nat) : Int) ∧ Eqv (kk r.2) (pm G C) ∧ BmInv T e N C B L ∧ L ≤ t
theorem pm_new (G C B : List K) (d : K) : Eqv (pm G (padd C (psc d (0 :: B)))) (padd (pm G C) (psc d (0 :: pm G B))) := by
  refine (pm_add_right _ _ _).trans (padd_eqv (Eqv.refl _) ?_)
  refine (pm_sc_right _ _ _).trans ?_
  intro n
  rw [co_psc, co_psc]
  congr 1
  exact ((pm_comm _ _).trans ((pm_shift_left _ _).trans (cons_eqv 0 (pm_comm _ _)))) n
theorem search_ok (s : List UInt8) (G E : List K) (e t : Nat) (T : List K) (hT : T = pm G (kk s)) : ∀ (q N : Nat) (l : Int) (loc last : List UInt8) (C B : List K) (L : Nat),
    l = ((e + L : Nat) : Int) → Eqv (kk loc) (pm G C) → Eqv (kk last) (pm G B) → BmInv T e N C B L → L ≤ t → Makes T e E t (N + q) →
    Found T G e (N + q) t (searchL s e q (e + 1 + N) l loc last)
  | 0, N, l, loc, last, C, B, L, hl, hloc, hlast, hi, hLt, hE => ⟨C, B, L, hl, hloc, hi, hLt⟩
  | q + 1, N, l, loc, last, C, B, L, hl, hloc, hlast, hi, hLt, hE => by
    have hgap : (⟨pgap loc s ((e + 1 + N : Nat) : Int)⟩ : K) = co (pm C T) (e + N) := by
      rw [show e + 1 + N = (e + N) + 1 by omega, gap_co, pm_eqv hloc (Eqv.refl _) _, hT]
      exact ((pm_eqv (pm_comm G C) (Eqv.refl _)).trans (pm_assoc C G _)) _
    have hz : Eqv (kk (0 :: last)) (pm G (0 :: B)) := by
      rw [kk_zero]
      exact (cons_eqv 0 hlast).trans (((pm_comm _ _).trans ((pm_shift_left _ _).trans (cons_eqv 0 (pm_comm _ _)))).symm)
    have hE' : Makes T e E t (N + 1 + q) := by rw [show N + 1 + q = N + (q + 1) by omega]; exact hE
    have hN : N + (q + 1) = N + 1 + q := by omega
    have hr : e + 1 + N + 1 = e + 1 + (N + 1) := by omega
    rw [searchL, hN, hr]
    by_cases h0 : pgap loc s ((e + 1 + N : Nat) : Int) = 0
    · rw [if_pos h0]
      have hd : co (pm C T) (e + N) = 0 := by rw [← hgap, h0]; rfl
      exact search_ok s G E e t T hT q (N + 1) l loc (0 :: last) C (0 :: B) L hl hloc hz (bm_same hi hd) hLt hE'
    · rw [if_neg h0]
      have hd0 : co (pm C T) (e + N) ≠ 0 := fun h => h0 (k_zero.1 (hgap.trans h))
      have hplus : Eqv (kk (pplus loc last (pgap loc s ((e + 1 + N : Nat) : Int)))) (pm G (padd C (psc (co (pm C T) (e + N)) (0 :: B)))) := by
        refine (kk_plus _ _ _).trans ?_
        rw [hgap]
        refine Eqv.trans ?_ (pm_new G C B _).symm
        refine padd_eqv hloc fun n => ?_
        rw [co_psc, co_psc, cons_eqv 0 hlast n]
      by_cases hc : 2 * l ≤ ((e + 1 + N : Nat) : Int) + e - 1
      · rw [if_pos hc]
        have hL : 2 * L ≤ N := by omega
        have hlong := bm_long hi hd0 hE (by omega)
        refine search_ok s G E e t T hT q (N + 1) _ _ _ _ (psc (inv (co (pm C T) (e + N))) C) (N + 1 - L) (by omega) hplus ?_ (bm_grow hi _ rfl hd0 hL) hlong hE'
        refine (kk_scaled _ _).trans ?_
        rw [k_inv, hgap]
        exact (fun n => by rw [co_psc, hloc n, ← co_psc]; exact ((pm_sc_right _ _ _) n).symm)
      · rw [if_neg hc]
        exact search_ok s G E e t T hT q (N + 1) _ _ _ _ (0 :: B) L hl hplus hz (bm_keep hi _ rfl (by omega)) hLt hE'

/-! ### Places -/
/-- What stands for a place. -/
def Xp (n i : Nat) : K := X ((n : Int) - 1 - i)
theorem Xp_ne (n i : Nat) : Xp n i ≠ 0 := X_ne _
theorem Xp_inj {n i j : Nat} (hn : n ≤ 255) (hi : i < n) (hj : j < n) (h : Xp n i = Xp n j) : i = j := by
  have := X_inj (m := (n : Int) - 1 - i) (n := (n : Int) - 1 - j) (by omega) (by omega) h
  omega
theorem Xp_nodup {n : Nat} (hn : n ≤ 255) {l : List Nat} (hl : ∀ i ∈ l, i < n) (hd : l.Nodup) : (l.map (Xp n)).Nodup := by
  induction l with
  | nil => simp
  | cons a l ih =>
    rw [List.nodup_cons] at hd
    rw [List.map_cons, List.nodup_cons]
    refine ⟨fun h => ?_, ih (fun i hi => hl i (by simp [hi])) hd.2⟩
    obtain ⟨b, hb, e⟩ := List.mem_map.1 h
    exact hd.1 (Xp_inj hn (hl b (by simp [hb])) (hl a (by simp)) e ▸ hb)
theorem place_mk (n i : Nat) : (⟨gexp ((n : Int) - 1 - i)⟩ : K) = Xp n i := rfl
theorem kk_locF (n : Nat) : ∀ (er : List Nat) (loc : List UInt8), Eqv (kk (plocF n er loc)) (pm (plocs (er.map (Xp n))) (kk loc))
  | [], loc => (pm_one _).symm
  | i :: er, loc => by
    rw [plocF]
    refine (kk_locF n er _).trans ?_
    rw [List.map_cons, plocs]
    have h1 : Eqv (kk (pplus loc loc (gexp ((n : Int) - 1 - i)))) (pm [1, Xp n i] (kk loc)) := by
      refine (kk_plus _ _ _).trans ?_
      intro m
      rw [place_mk, co_padd, co_psc]
      match m with
      | 0 => rw [co_zero, K.mul_zero, K.add_zero, co_pm, sumK, sumK, K.zero_add, co_zero, K.one_mul]
      | m + 1 => rw [co_succ, co_pm1]
    refine (pm_eqv (Eqv.refl _) h1).trans ?_
    refine (pm_swap _ _ _).trans ?_
    exact (pm_assoc _ _ _).symm
theorem kk_loc (n : Nat) (er : List Nat) : Eqv (kk (ploc n er)) (plocs (er.map (Xp n))) :=
  (kk_locF n er [1]).trans ((pm_comm _ _).trans (pm_one _))
/-- A word's values. -/
theorem ev_word_sum (word : List UInt8) (n : Nat) (hn : word.length = n) (k : Nat) : (⟨peval word (gexp (k : Int))⟩ : K) = sumK n (fun i => ⟨word.getD i 0⟩ * pow (Xp n i) k) := by
  rw [ev_word, ev_sum, kk_len, List.length_reverse, hn, ← sumK_rev]
  refine sumK_congr fun i hi => ?_
  rw [co_kk]
  have h1 : word.reverse.getD (n - 1 - i) 0 = word.getD i 0 := by
    rw [List.getD_eq_getElem?_getD, List.getD_eq_getElem?_getD, List.getElem?_reverse (by omega)]
    rw [show word.length - 1 - (n - 1 - i) = i by omega]
  rw [h1]
  congr 1
  show pow (X (k : Int)) _ = pow (X _) k
  rw [X_pow, X_pow]; congr 1
  rw [Int.mul_comm]; congr 1; omega
theorem syn_co (word : List UInt8) (m k : Nat) (hk : k < m) : co (kk (syn m word)) k = ⟨peval word (gexp (k : Int))⟩ := by
  rw [co_kk, syn, List.getD_eq_getElem?_getD, List.getElem?_map, List.getElem?_range hk]; rfl
theorem right_zero {m : Nat} {word : List UInt8} (h : rightB m word = true) (k : Nat) (hk : k < m) : (⟨peval word (gexp (k : Int))⟩ : K) = 0 := by
  have h1 : (syn m word).any nz = false := by simpa [rightB] using h
  have h2 := (List.any_eq_false.1 h1) (peval word (gexp (k : Int))) (by
    rw [syn, List.mem_map]; exact ⟨k, by simpa using hk, rfl⟩)
  rw [k_zero]
  simpa [nz] using h2
theorem zero_right {m : Nat} {word : List UInt8} (h : ∀ k, k < m → (⟨peval word (gexp (k : Int))⟩ : K) = 0) : rightB m word = true := by
  have : (syn m word).any nz = false := by
    rw [List.any_eq_false]
    intro x hx
    rw [syn, List.mem_map] at hx
    obtain ⟨k, hk, rfl⟩ := hx
    have := k_zero.1 (h k (by simpa using hk))
    rw [this]; decide
  rw [rightB, this]; rfl
end Go.Proofs.Ytdcjionaedcfoaa.Solve
