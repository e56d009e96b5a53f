/- Bytes as elements of the field; products of (1 + a x), sums, derivatives: plainly. -/
import Derived.Test.YtdcjionaedcfoaaBm
import Derived.Test.YtdcjionaedcfoaaSolve10
set_option linter.unusedVariables false
set_option linter.unusedSimpArgs false
namespace Go.Proofs.Ytdcjionaedcfoaa.Solve
open Go.Proofs.Ytdcjionaedcfoaa.Gf Go.Proofs.Ytdcjionaedcfoaa.Gf.K Go.Proofs.Ytdcjionaedcfoaa.Poly Go.Proofs.Ytdcjionaedcfoaa.Rs

/-! ### Bytes as elements of the field -/
def kk (l : List UInt8) : List K := l.map K.mk
theorem kk_len (l : List UInt8) : (kk l).length = l.length := by simp [kk]
theorem co_kk (l : List UInt8) (n : Nat) : co (kk l) n = ⟨l.getD n 0⟩ := by
  rw [co, kk, List.getD_eq_getElem?_getD, List.getD_eq_getElem?_getD, List.getElem?_map]
  cases l[n]? <;> rfl
theorem k_add (a b : UInt8) : (⟨gadd [a, b]⟩ : K) = ⟨a⟩ + ⟨b⟩ := by
  apply K.ext; show gadd [a, b] = a ^^^ b
  simp [gadd]
theorem k_mul (a b : UInt8) : (⟨gmul [a, b]⟩ : K) = ⟨a⟩ * ⟨b⟩ := rfl
theorem k_eq {a b : UInt8} : (⟨a⟩ : K) = ⟨b⟩ ↔ a = b := ⟨fun h => congrArg K.v h, fun h => by rw [h]⟩
theorem k_zero {a : UInt8} : (⟨a⟩ : K) = 0 ↔ a = 0 := k_eq
theorem k_inv (a : UInt8) : (⟨ginv a⟩ : K) = inv ⟨a⟩ := rfl
theorem patI_nat (xs : List UInt8) (n : Nat) : patI xs (n : Int) = xs.getD n 0 := by rw [patI, if_pos (by omega), Int.toNat_natCast]
theorem patI_neg (xs : List UInt8) {i : Int} (h : i < 0) : patI xs i = 0 := by rw [patI, if_neg (by omega)]
theorem pevalF_snoc (x : UInt8) : ∀ (l : List UInt8) (a out : UInt8), pevalF x (l ++ [a]) out = gadd [gmul [pevalF x l out, x], a]
  | [], a, out => rfl
  | c :: l, a, out => by rw [List.cons_append, pevalF, pevalF_snoc x l, pevalF]
theorem ev_rev (x : UInt8) : ∀ l : List UInt8, (⟨peval l.reverse x⟩ : K) = ev (kk l) ⟨x⟩
  | [] => rfl
  | a :: l => by
    have ih := ev_rev x l
    unfold peval at *
    rw [List.reverse_cons, pevalF_snoc, k_add, k_mul, ih]
    show ev (kk l) ⟨x⟩ * ⟨x⟩ + ⟨a⟩ = ⟨a⟩ + ⟨x⟩ * ev (kk l) ⟨x⟩
    rw [K.mul_comm, K.add_comm]
theorem ev_word (x : UInt8) (l : List UInt8) : (⟨peval l x⟩ : K) = ev (kk l.reverse) ⟨x⟩ := by
  have := ev_rev x l.reverse
  rwa [List.reverse_reverse] at this
theorem kk_plus (a b : List UInt8) (c : UInt8) : Eqv (kk (pplus a b c)) (padd (kk a) (psc ⟨c⟩ (0 :: kk b))) := fun n => by
  rw [co_kk, co_padd, co_psc, co_kk]
  have hf : (⟨plusF a b c n⟩ : K) = ⟨a.getD n 0⟩ + ⟨c⟩ * co (0 :: kk b) n := by
    rw [plusF, k_add, k_mul, patI_nat]
    match n with
    | 0 => rw [co_zero, K.mul_zero, patI_neg b (by omega)]; congr 1; exact K.mul_zero _
    | n + 1 => rw [co_succ, co_kk, show ((n + 1 : Nat) : Int) - 1 = (n : Int) by omega, patI_nat]
  by_cases hn : n < max a.length (b.length + 1)
  · rw [← hf, pplus]
    congr 1
    rw [List.getD_eq_getElem?_getD, List.getElem?_map, List.getElem?_range hn]; rfl
  · have e1 : (pplus a b c).getD n 0 = 0 := by rw [List.getD_eq_getElem?_getD, List.getElem?_eq_none (by simp [pplus]; omega)]; rfl
    have e2 : a.getD n 0 = 0 := by rw [List.getD_eq_getElem?_getD, List.getElem?_eq_none (by omega)]; rfl
    rw [e1, e2]
    obtain ⟨m, rfl⟩ : ∃ m, n = m + 1 := ⟨n - 1, by omega⟩
    rw [co_succ, co_big (by rw [kk_len]; omega), K.mul_zero, K.add_zero]
theorem kk_scaled (a : List UInt8) (c : UInt8) : Eqv (kk (pscaled a c)) (psc ⟨c⟩ (kk a)) := fun n => by
  rw [co_kk, co_psc, co_kk, pscaled, List.getD_eq_getElem?_getD, List.getD_eq_getElem?_getD, List.getElem?_map]
  cases a[n]? with
  | none => exact (K.mul_zero _).symm
  | some x => show (⟨gmul [x, c]⟩ : K) = _; rw [k_mul, K.mul_comm]; rfl
theorem kk_zero (l : List UInt8) : kk (0 :: l) = 0 :: kk l := rfl
theorem gapL_sum (loc s : List UInt8) (r : Nat) : ∀ m, (⟨gapL loc s ((r + 1 : Nat) : Int) m⟩ : K) = sumK m (fun j => if j ≤ r then co (kk loc) j * co (kk s) (r - j) else 0)
  | 0 => rfl
  | m + 1 => by
    rw [gapL, gapF, k_add, gapL_sum loc s r m, k_mul, sumK]
    congr 1
    rw [co_kk]
    by_cases h : m ≤ r
    · rw [if_pos h, co_kk, show ((r + 1 : Nat) : Int) - 1 - m = ((r - m : Nat) : Int) by omega, patI_nat]
    · rw [if_neg h, patI_neg s (by omega)]; exact K.mul_zero _
theorem gap_co (loc s : List UInt8) (r : Nat) : (⟨pgap loc s ((r + 1 : Nat) : Int)⟩ : K) = co (pm (kk loc) (kk s)) r := by
  rw [pgap, gapL_sum, co_pm]
  rcases Nat.le_total loc.length (r + 1) with h | h
  · rw [← sumK_less h (f := fun j => if j ≤ r then co (kk loc) j * co (kk s) (r - j) else 0) fun i h1 h2 => by
      rw [co_big (by rw [kk_len]; omega), K.zero_mul]; split <;> rfl]
    exact sumK_congr fun i hi => by rw [if_pos (by omega)]
  · rw [sumK_less h fun i h1 h2 => by rw [if_neg (by omega)]]
    exact sumK_congr fun i hi => by rw [if_pos (by omega)]
/-! ### Products of (1 + a x) -/
theorem plocs_perm {a b : List K} (h : List.Perm a b) : Eqv (plocs a) (plocs b) := by
  induction h with
  | nil => exact Eqv.refl _
  | cons x _ ih => exact pm_eqv (Eqv.refl _) ih
  | swap x y l => exact pm_swap _ _ _
  | trans _ _ h1 h2 => exact h1.trans h2
theorem plocs_append : ∀ a b : List K, Eqv (plocs (a ++ b)) (pm (plocs a) (plocs b))
  | [], b => (pm_one _).symm
  | x :: a, b => (pm_eqv (Eqv.refl _) (plocs_append a b)).trans (pm_assoc _ _ _).symm
theorem plocs_deg : ∀ a : List K, Deg (plocs a) (a.length + 1)
  | [] => deg_len [1]
  | x :: a => by
    have := Deg.pm (m := 1) (deg_len [1, x]) (plocs_deg a)
    exact this.mono (by simp; omega)
theorem plocs_zero : ∀ a : List K, co (plocs a) 0 = 1
  | [] => rfl
  | x :: a => by rw [plocs, co_pm, sumK, sumK, K.zero_add, co_zero, plocs_zero a, K.mul_one]
theorem plocs_top : ∀ a : List K, (∀ x ∈ a, x ≠ 0) → co (plocs a) a.length ≠ 0
  | [], _ => K.one_ne
  | x :: a, h => by
    rw [plocs, co_pm, List.length_cons, sumK_head, sumK_head, sumK_zero fun i hi => by rw [co_big (by simp), K.zero_mul], K.add_zero, co_zero, plocs_deg a _ (by omega), K.mul_zero, K.zero_add]
    exact K.mul_ne (h x (by simp)) (by rw [show a.length + 1 - (0 + 1) = a.length by omega]; exact plocs_top a fun y hy => h y (by simp [hy]))
theorem ev_ploc1 (a x : K) : ev [1, a] x = 1 + a * x := by rw [ev, ev, ev, K.mul_zero, K.add_zero, K.mul_comm]
theorem ev_plocs_zero : ∀ (a : List K) (x : K), ev (plocs a) x = 0 ↔ ∃ y ∈ a, y * x = 1
  | [], x => by
    rw [plocs, ev, ev, K.mul_zero, K.add_zero]
    simp [K.one_ne]
  | y :: a, x => by
    rw [plocs, ev_pm, ev_ploc1]
    constructor
    · intro h
      rcases K.mul_eq_zero h with h | h
      · exact ⟨y, by simp, (K.eq_of_add h).symm⟩
      · obtain ⟨z, hz, e⟩ := (ev_plocs_zero a x).1 h
        exact ⟨z, by simp [hz], e⟩
    · rintro ⟨z, hz, e⟩
      rcases List.mem_cons.1 hz with rfl | hz
      · rw [e, K.add_self, K.zero_mul]
      · rw [(ev_plocs_zero a x).2 ⟨z, hz, e⟩, K.mul_zero]
theorem co_pm1 (a : K) (q : List K) (n : Nat) : co (pm [1, a] q) (n + 1) = co q (n + 1) + a * co q n := by
  rw [co_pm, sumK_head, sumK_head, sumK_zero fun i hi => by rw [co_big (by simp), K.zero_mul], K.add_zero, co_zero, K.one_mul]
  rfl
/-! ### The powers of a as a series -/
def geo (p : Nat) (a : K) : List K := (List.range p).map fun i => pow a i
theorem co_geo {p : Nat} {a : K} {n : Nat} (h : n < p) : co (geo p a) n = pow a n := by
  rw [co, geo, List.getD_eq_getElem?_getD, List.getElem?_map, List.getElem?_range h]; rfl
theorem geo_one (p : Nat) (a : K) (n : Nat) (hn : n < p) : co (pm [1, a] (geo p a)) n = co [1] n := by
  match n with
  | 0 => rw [co_pm, sumK, sumK, K.zero_add, co_zero, co_geo hn]; exact K.one_mul _
  | n + 1 =>
    rw [co_pm1, co_geo hn, co_geo (by omega), pow, K.mul_comm, K.add_self, co_succ, co_nil]
theorem co_pm_low {p : Nat} {u v w : List K} (h : ∀ n, n < p → co v n = co w n) (n : Nat) (hn : n < p) : co (pm u v) n = co (pm u w) n := by
  rw [co_pm, co_pm]; exact sumK_congr fun i hi => by rw [h (n - i) (by omega)]
theorem plocs_geo {l : List K} {a : K} (ha : a ∈ l) (p n : Nat) (hn : n < p) : co (pm (plocs l) (geo p a)) n = co (plocs (l.erase a)) n := by
  have h1 : Eqv (plocs l) (pm (plocs (l.erase a)) [1, a]) := (plocs_perm (List.perm_cons_erase ha)).trans (pm_comm _ _)
  rw [pm_eqv h1 (Eqv.refl _) n, pm_assoc _ _ _ n, co_pm_low (geo_one p a) n hn, pm_comm _ _ n, pm_one _ n]
/-! ### Sums over lists -/
def sumL {α : Type} (l : List α) (f : α → K) : K := match l with
  | [] => 0
  | a :: l => f a + sumL l f
theorem sumL_congr {α : Type} {l : List α} {f g : α → K} (h : ∀ a ∈ l, f a = g a) : sumL l f = sumL l g := by
  induction l with
  | nil => rfl
  | cons a l ih => rw [sumL, sumL, h a (by simp), ih fun b hb => h b (by simp [hb])]
theorem sumL_zero {α : Type} {l : List α} {f : α → K} (h : ∀ a ∈ l, f a = 0) : sumL l f = 0 := by
  induction l with
  | nil => rfl
  | cons a l ih => rw [sumL, h a (by simp), ih fun b hb => h b (by simp [hb]), K.add_zero]
theorem sumL_add {α : Type} (l : List α) (f g : α → K) : sumL l (fun a => f a + g a) = sumL l f + sumL l g := by
  induction l with
  | nil => exact (K.add_zero _).symm
  | cons a l ih => rw [sumL, sumL, sumL, ih]; ac_rfl
theorem sumL_mul {α : Type} (l : List α) (c : K) (f : α → K) : sumL l (fun a => c * f a) = c * sumL l f := by
  induction l with
  | nil => exact (K.mul_zero _).symm
  | cons a l ih => rw [sumL, sumL, ih, K.mul_add]
theorem sumL_one {α : Type} {l : List α} {f : α → K} {a : α} (ha : a ∈ l) (hn : l.Nodup) (h : ∀ b ∈ l, b ≠ a → f b = 0) : sumL l f = f a := by
  induction l with
  | nil => cases ha
  | cons b l ih =>
    rw [List.nodup_cons] at hn
    rw [sumL]
    rcases List.mem_cons.1 ha with rfl | ha
    · rw [sumL_zero fun c hc => h c (by simp [hc]) (fun e => hn.1 (e ▸ hc)), K.add_zero]
    · rw [h b (by simp) (fun e => hn.1 (e ▸ ha)), ih ha hn.2 fun c hc => h c (by simp [hc]), K.zero_add]
theorem sumL_filter {α : Type} (l : List α) (p : α → Bool) (f : α → K) (h : ∀ a ∈ l, p a = false → f a = 0) : sumL (l.filter p) f = sumL l f := by
  induction l with
  | nil => rfl
  | cons a l ih =>
    have ih := ih fun b hb => h b (by simp [hb])
    cases hp : p a with
    | true => rw [List.filter_cons_of_pos hp, sumL, sumL, ih]
    | false => rw [List.filter_cons_of_neg (by simp [hp]), sumL, ih, h a (by simp) hp, K.zero_add]
theorem sumL_append {α : Type} (a b : List α) (f : α → K) : sumL (a ++ b) f = sumL a f + sumL b f := by
  induction a with
  | nil => exact (K.zero_add _).symm
  | cons x a ih => rw [List.cons_append, sumL, sumL, ih, K.add_assoc]
theorem sumL_range (n : Nat) (f : Nat → K) : sumL (List.range n) f = sumK n f := by
  induction n with
  | zero => rfl
  | succ n ih => rw [List.range_succ, sumL_append, sumK, ih, sumL, sumL, K.add_zero]
theorem sumL_swap {α : Type} (l : List α) (n : Nat) (f : α → Nat → K) : sumL l (fun a => sumK n (f a)) = sumK n (fun i => sumL l (fun a => f a i)) := by
  induction l with
  | nil => exact (sumK_zero fun i hi => rfl).symm
  | cons a l ih => rw [sumL, ih, ← sumK_add]; exact sumK_congr fun i hi => rfl
/-- The product with a sum of series. -/
theorem co_pm_sumL {α : Type} (l : List α) (c : α → K) (g : α → List K) (u s : List K) (p : Nat) (hs : ∀ n, n < p → co s n = sumL l (fun a => c a * co (g a) n)) (n : Nat) (hn : n < p) :
    co (pm u s) n = sumL l (fun a => c a * co (pm u (g a)) n) := by
  have h1 : ∀ a, c a * co (pm u (g a)) n = sumK (n + 1) (fun i => co u i * (c a * co (g a) (n - i))) := fun a => by
    rw [co_pm, ← sumK_mul]; exact sumK_congr fun i hi => by ac_rfl
  rw [co_pm, sumL_congr fun a _ => h1 a, sumL_swap]
  exact sumK_congr fun i hi => by rw [hs (n - i) (by omega), sumL_mul]
/-- A sum of polynomials. -/
def psum {α : Type} (l : List α) (g : α → List K) : List K := match l with
  | [] => []
  | a :: l => padd (g a) (psum l g)
theorem co_psum {α : Type} (l : List α) (g : α → List K) (n : Nat) : co (psum l g) n = sumL l (fun a => co (g a) n) := by
  induction l with
  | nil => exact co_nil n
  | cons a l ih => rw [psum, co_padd, ih, sumL]
theorem ev_psum {α : Type} (l : List α) (g : α → List K) (x : K) : ev (psum l g) x = sumL l (fun a => ev (g a) x) := by
  induction l with
  | nil => rfl
  | cons a l ih => rw [psum, ev_padd, ih, sumL]
/-! ### The derivative -/
def derK (p : List K) : List K := (List.range (p.length - 1)).map fun i => if i % 2 = 0 then co p (i + 1) else 0
theorem co_der (p : List K) (i : Nat) : co (derK p) i = if i % 2 = 0 then co p (i + 1) else 0 := by
  by_cases h : i < p.length - 1
  · rw [co, derK, List.getD_eq_getElem?_getD, List.getElem?_map, List.getElem?_range h]; rfl
  · rw [co_big (by simp [derK]; omega), co_big (by omega)]; split <;> rfl
theorem der_eqv {p q : List K} (h : Eqv p q) : Eqv (derK p) (derK q) := fun i => by rw [co_der, co_der, h]
/-- (1 + a x) q has the derivative a q + (1 + a x) q'. -/
theorem der_pm1 (a : K) (q : List K) : Eqv (derK (pm [1, a] q)) (padd (psc a q) (pm [1, a] (derK q))) := fun i => by
  rw [co_der, co_padd, co_psc, co_pm1]
  match i with
  | 0 =>
    rw [if_pos rfl, co_pm, sumK, sumK, K.zero_add, co_zero, K.one_mul, co_der, if_pos rfl, K.add_comm]
  | i + 1 =>
    rw [co_pm1, co_der, co_der]
    rcases Nat.mod_two_eq_zero_or_one i with h | h
    · rw [if_neg (by omega), if_neg (by omega), if_pos h, K.zero_add, K.add_self]
    · rw [if_pos (by omega), if_pos (by omega), if_neg (by omega), K.mul_zero, K.add_zero, K.add_comm]
end Go.Proofs.Ytdcjionaedcfoaa.Solve
