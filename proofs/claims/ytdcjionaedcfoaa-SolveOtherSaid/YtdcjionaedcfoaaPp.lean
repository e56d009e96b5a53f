/- Polynomials over the field of 256 bytes, plainly: lists, the lowest power first. -/
import Derived.Test.YtdcjionaedcfoaaFp
set_option linter.unusedVariables false
set_option linter.unusedSimpArgs false
namespace Go.Proofs.Ytdcjionaedcfoaa.Gf
open K

/-! ### Sums -/
def sumK (n : Nat) (f : Nat → K) : K := match n with
  | 0 => 0
  | n + 1 => sumK n f + f n
theorem sumK_congr {n : Nat} {f g : Nat → K} (h : ∀ i, i < n → f i = g i) : sumK n f = sumK n g := by
  induction n with
  | zero => rfl
  | succ n ih => rw [sumK, sumK, ih fun i hi => h i (by omega), h n (by omega)]
theorem sumK_zero {n : Nat} {f : Nat → K} (h : ∀ i, i < n → f i = 0) : sumK n f = 0 := by
  induction n with
  | zero => rfl
  | succ n ih => rw [sumK, ih fun i hi => h i (by omega), h n (by omega), add_zero]
theorem sumK_add (n : Nat) (f g : Nat → K) : sumK n (fun i => f i + g i) = sumK n f + sumK n g := by
  induction n with
  | zero => rw [sumK, sumK, sumK, add_zero]
  | succ n ih => rw [sumK, sumK, sumK, ih]; ac_rfl
theorem sumK_mul (n : Nat) (a : K) (f : Nat → K) : sumK n (fun i => a * f i) = a * sumK n f := by
  induction n with
  | zero => rw [sumK, sumK, mul_zero]
  | succ n ih => rw [sumK, sumK, ih, mul_add]
theorem sumK_head (n : Nat) (f : Nat → K) : sumK (n + 1) f = f 0 + sumK n (fun i => f (i + 1)) := by
  induction n with
  | zero => rw [sumK, sumK, sumK, zero_add, add_zero]
  | succ n ih => rw [sumK, ih, sumK, add_assoc]
theorem sumK_one {n j : Nat} {f : Nat → K} (hj : j < n) (h : ∀ i, i < n → i ≠ j → f i = 0) : sumK n f = f j := by
  induction n with
  | zero => omega
  | succ n ih =>
    rw [sumK]
    by_cases e : j = n
    · subst e; rw [sumK_zero fun i hi => h i (by omega) (by omega), zero_add]
    · rw [ih (by omega) fun i hi => h i (by omega), h n (by omega) (fun h => e h.symm), add_zero]
theorem sumK_less {m n : Nat} {f : Nat → K} (hmn : m ≤ n) (h : ∀ i, m ≤ i → i < n → f i = 0) : sumK n f = sumK m f := by
  induction n with
  | zero => have : m = 0 := by omega
            subst this; rfl
  | succ n ih =>
    by_cases e : m = n + 1
    · rw [e]
    · rw [sumK, ih (by omega) fun i h1 h2 => h i h1 (by omega), h n (by omega) (by omega), add_zero]
theorem sumK_rev (n : Nat) (f : Nat → K) : sumK n (fun i => f (n - 1 - i)) = sumK n f := by
  induction n with
  | zero => rfl
  | succ n ih =>
    rw [sumK_head, sumK, add_comm]
    congr 1
    rw [← ih]
    exact sumK_congr fun i hi => by congr 1; omega
theorem sumK_swap (m n : Nat) (f : Nat → Nat → K) : sumK m (fun i => sumK n (f i)) = sumK n (fun j => sumK m (fun i => f i j)) := by
  induction m with
  | zero => rw [sumK]; exact (sumK_zero fun i hi => rfl).symm
  | succ m ih => rw [sumK, ih, ← sumK_add]; exact sumK_congr fun i hi => rfl

/-! ### Polynomials -/
def ev : List K → K → K
  | [], _ => 0
  | a :: t, x => a + x * ev t x
def co (p : List K) (n : Nat) : K := p.getD n 0
theorem co_nil (n : Nat) : co [] n = 0 := by simp [co]
theorem co_zero (a : K) (p : List K) : co (a :: p) 0 = a := rfl
theorem co_succ (a : K) (p : List K) (n : Nat) : co (a :: p) (n + 1) = co p n := by simp [co]
theorem co_big {p : List K} {n : Nat} (h : p.length ≤ n) : co p n = 0 := by
  rw [co, List.getD_eq_getElem?_getD, List.getElem?_eq_none h]; rfl
theorem co_get {p : List K} {n : Nat} (h : n < p.length) : co p n = p[n] := by rw [co, List.getD_eq_getElem?_getD, List.getElem?_eq_getElem h]; rfl
/-- The same factors. -/
def Eqv (p q : List K) : Prop := ∀ n, co p n = co q n
theorem Eqv.refl (p : List K) : Eqv p p := fun _ => rfl
theorem Eqv.symm {p q : List K} (h : Eqv p q) : Eqv q p := fun n => (h n).symm
theorem Eqv.trans {p q r : List K} (h : Eqv p q) (k : Eqv q r) : Eqv p r := fun n => (h n).trans (k n)
theorem ev_sum (p : List K) (x : K) : ev p x = sumK p.length (fun i => co p i * pow x i) := by
  induction p with
  | nil => rfl
  | cons a p ih =>
    rw [ev, ih, List.length_cons, sumK_head, co_zero, pow, mul_one, ← sumK_mul]
    congr 1
    exact sumK_congr fun i hi => by rw [co_succ, pow]; ac_rfl
theorem ev_sum_le {p : List K} {m : Nat} (x : K) (h : ∀ i, m ≤ i → co p i = 0) : ev p x = sumK m (fun i => co p i * pow x i) := by
  rw [ev_sum]
  rcases Nat.le_total m p.length with h1 | h1
  · exact sumK_less h1 fun i h2 h3 => by rw [h i h2, zero_mul]
  · exact (sumK_less h1 fun i h2 h3 => by rw [co_big h2, zero_mul]).symm
theorem ev_eqv {p q : List K} (h : Eqv p q) (x : K) : ev p x = ev q x := by
  rw [ev_sum, ev_sum_le (m := p.length) x fun i hi => by rw [← h i, co_big hi]]
  exact sumK_congr fun i hi => by rw [h i]
theorem ev_zeros {p : List K} (h : ∀ n, co p n = 0) (x : K) : ev p x = 0 := by
  rw [ev_sum]; exact sumK_zero fun i hi => by rw [h i, zero_mul]

def padd : List K → List K → List K
  | [], q => q
  | p, [] => p
  | a :: p, b :: q => (a + b) :: padd p q
theorem co_padd : ∀ (p q : List K) (n : Nat), co (padd p q) n = co p n + co q n
  | [], q, n => by rw [padd, co_nil, zero_add]
  | a :: p, [], n => by rw [padd, co_nil, add_zero]; intro h; cases h
  | a :: p, b :: q, 0 => rfl
  | a :: p, b :: q, n + 1 => by rw [padd, co_succ, co_succ, co_succ, co_padd p q n]
theorem ev_padd : ∀ (p q : List K) (x : K), ev (padd p q) x = ev p x + ev q x
  | [], q, x => by rw [padd, ev, zero_add]
  | a :: p, [], x => by rw [padd, ev, ev, add_zero]; intro h; cases h
  | a :: p, b :: q, x => by rw [padd, ev, ev, ev, ev_padd p q x, mul_add]; ac_rfl
theorem padd_len : ∀ (p q : List K), (padd p q).length = max p.length q.length
  | [], q => by simp [padd]
  | a :: p, [] => by simp [padd]
  | a :: p, b :: q => by simp only [padd, List.length_cons, padd_len p q]; omega
def psc (c : K) (p : List K) : List K := p.map (c * ·)
theorem co_psc (c : K) : ∀ (p : List K) (n : Nat), co (psc c p) n = c * co p n
  | [], n => by rw [psc, List.map_nil, co_nil, mul_zero]
  | a :: p, 0 => rfl
  | a :: p, n + 1 => by
    have := co_psc c p n
    rw [psc] at this
    rw [psc, List.map_cons, co_succ, co_succ, this]
theorem ev_psc (c : K) : ∀ (p : List K) (x : K), ev (psc c p) x = c * ev p x
  | [], x => by rw [psc, List.map_nil, ev, mul_zero]
  | a :: p, x => by
    have := ev_psc c p x
    rw [psc] at this
    rw [psc, List.map_cons, ev, ev, this, mul_add]
    congr 1; ac_rfl
theorem psc_len (c : K) (p : List K) : (psc c p).length = p.length := by simp [psc]
def pm : List K → List K → List K
  | [], _ => []
  | a :: p, q => padd (psc a q) (0 :: pm p q)
theorem ev_pm : ∀ (p q : List K) (x : K), ev (pm p q) x = ev p x * ev q x
  | [], q, x => by rw [pm, ev, zero_mul]
  | a :: p, q, x => by rw [pm, ev_padd, ev_psc, ev, ev, ev_pm p q x, zero_add, add_mul]; congr 1; ac_rfl
theorem co_pm : ∀ (p q : List K) (n : Nat), co (pm p q) n = sumK (n + 1) (fun i => co p i * co q (n - i))
  | [], q, n => by rw [pm, co_nil]; exact (sumK_zero fun i hi => by rw [co_nil, zero_mul]).symm
  | a :: p, q, 0 => by rw [pm, co_padd, co_psc, co_zero, add_zero, sumK, sumK, zero_add, co_zero]
  | a :: p, q, n + 1 => by
    rw [pm, co_padd, co_psc, co_succ, co_pm p q n, sumK_head (n + 1), co_zero, Nat.sub_zero]
    congr 1
    exact sumK_congr fun i hi => by rw [co_succ, show n + 1 - (i + 1) = n - i by omega]
theorem pm_eqv {p p' q q' : List K} (h : Eqv p p') (k : Eqv q q') : Eqv (pm p q) (pm p' q') := fun n => by
  rw [co_pm, co_pm]; exact sumK_congr fun i hi => by rw [h i, k (n - i)]
theorem pm_comm (p q : List K) : Eqv (pm p q) (pm q p) := fun n => by
  rw [co_pm, co_pm, ← sumK_rev]
  exact sumK_congr fun i hi => by rw [mul_comm, show n + 1 - 1 - i = n - i by omega, show n - (n - i) = i by omega]
theorem padd_eqv {p p' q q' : List K} (h : Eqv p p') (k : Eqv q q') : Eqv (padd p q) (padd p' q') := fun n => by rw [co_padd, co_padd, h n, k n]
theorem pm_add_left (p q r : List K) : Eqv (pm (padd p q) r) (padd (pm p r) (pm q r)) := fun n => by
  rw [co_pm, co_padd, co_pm, co_pm, ← sumK_add]
  exact sumK_congr fun i hi => by rw [co_padd, add_mul]
theorem pm_add_right (p q r : List K) : Eqv (pm p (padd q r)) (padd (pm p q) (pm p r)) := fun n => by
  rw [co_pm, co_padd, co_pm, co_pm, ← sumK_add]
  exact sumK_congr fun i hi => by rw [co_padd, mul_add]
theorem pm_sc_left (c : K) (p q : List K) : Eqv (pm (psc c p) q) (psc c (pm p q)) := fun n => by
  rw [co_pm, co_psc, co_pm, ← sumK_mul]
  exact sumK_congr fun i hi => by rw [co_psc, mul_assoc]
theorem pm_sc_right (c : K) (p q : List K) : Eqv (pm p (psc c q)) (psc c (pm p q)) := fun n => by
  rw [co_pm, co_psc, co_pm, ← sumK_mul]
  exact sumK_congr fun i hi => by rw [co_psc]; ac_rfl
theorem pm_shift_left (p q : List K) : Eqv (pm (0 :: p) q) (0 :: pm p q) := fun n => by
  rw [pm, co_padd, co_psc, zero_mul, zero_add]
theorem cons_eqv {p q : List K} (a : K) (h : Eqv p q) : Eqv (a :: p) (a :: q) := fun n => by
  match n with
  | 0 => rfl
  | n + 1 => rw [co_succ, co_succ, h n]
theorem pm_assoc : ∀ (p q r : List K), Eqv (pm (pm p q) r) (pm p (pm q r))
  | [], q, r => fun n => rfl
  | a :: p, q, r => by
    rw [pm, pm]
    refine (pm_add_left _ _ _).trans (padd_eqv (pm_sc_left _ _ _) ?_)
    exact (pm_shift_left _ _).trans (cons_eqv 0 (pm_assoc p q r))
theorem pm_one (p : List K) : Eqv (pm [1] p) p := fun n => by
  rw [pm, co_padd, co_psc, one_mul]
  match n with
  | 0 => rw [co_zero, add_zero]
  | n + 1 => rw [co_succ, pm, co_nil, add_zero]
/-- Zero from so high on. -/
def Deg (p : List K) (m : Nat) : Prop := ∀ i, m ≤ i → co p i = 0
theorem deg_len (p : List K) : Deg p p.length := fun i hi => co_big hi
theorem Deg.mono {p : List K} {m n : Nat} (h : Deg p m) (hmn : m ≤ n) : Deg p n := fun i hi => h i (by omega)
theorem Deg.eqv {p q : List K} {m : Nat} (h : Deg p m) (e : Eqv p q) : Deg q m := fun i hi => by rw [← e i, h i hi]
theorem Deg.padd {p q : List K} {m : Nat} (h : Deg p m) (k : Deg q m) : Deg (padd p q) m := fun i hi => by rw [co_padd, h i hi, k i hi, add_zero]
theorem Deg.psc {p : List K} {m : Nat} (h : Deg p m) (c : K) : Deg (psc c p) m := fun i hi => by rw [co_psc, h i hi, mul_zero]
theorem Deg.cons {p : List K} {m : Nat} (h : Deg p m) (a : K) : Deg (a :: p) (m + 1) := fun i hi => by
  match i, hi with
  | i + 1, hi => rw [co_succ, h i (by omega)]
theorem Deg.pm {p q : List K} {m n : Nat} (h : Deg p (m + 1)) (k : Deg q n) : Deg (pm p q) (m + n) := fun i hi => by
  rw [co_pm]
  refine sumK_zero fun j hj => ?_
  by_cases hj2 : m + 1 ≤ j
  · rw [h j hj2, zero_mul]
  · rw [k (i - j) (by omega), mul_zero]
theorem take_eqv {p : List K} {m : Nat} (h : Deg p m) : Eqv (p.take m) p := fun i => by
  by_cases hi : i < m
  · rw [co, co, List.getD_eq_getElem?_getD, List.getD_eq_getElem?_getD, List.getElem?_take, if_pos hi]
  · rw [h i (by omega), co_big (by rw [List.length_take]; omega)]

/-! ### Roots -/
/-- What a polynomial is divided to by x + r. -/
def quo (r : K) : List K → List K
  | [] => []
  | [_] => []
  | _ :: b :: t => ev (b :: t) r :: quo r (b :: t)
theorem quo_len (r : K) : ∀ p : List K, (quo r p).length = p.length - 1
  | [] => rfl
  | [_] => rfl
  | a :: b :: t => by rw [quo, List.length_cons, quo_len r (b :: t)]; simp
theorem ev_quo (r : K) : ∀ (p : List K) (x : K), ev p x = ev p r + (x + r) * ev (quo r p) x
  | [], x => by rw [quo, ev, ev, mul_zero, add_zero]
  | [a], x => by simp only [quo, ev, mul_zero, add_zero]
  | a :: b :: t, x => by
    have ih := ev_quo r (b :: t) x
    rw [quo, show ev (a :: b :: t) x = a + x * ev (b :: t) x from rfl, show ev (a :: b :: t) r = a + r * ev (b :: t) r from rfl, show ev (ev (b :: t) r :: quo r (b :: t)) x = ev (b :: t) r + x * ev (quo r (b :: t)) x from rfl, ih]
    generalize ev (b :: t) r = u
    generalize ev (quo r (b :: t)) x = q
    have h1 : a + x * (u + (x + r) * q) = a + x * u + x * ((x + r) * q) := by rw [mul_add]; ac_rfl
    have h2 : a + r * u + (x + r) * (u + x * q) = a + x * u + x * ((x + r) * q) := by
      rw [mul_add (x + r), add_mul x r u, show (x + r) * (x * q) = x * ((x + r) * q) by ac_rfl]
      have : a + r * u + (x * u + r * u + x * ((x + r) * q)) = (r * u + r * u) + (a + x * u + x * ((x + r) * q)) := by ac_rfl
      rw [this, add_self, zero_add]
    rw [h1, h2]
theorem quo_zeros (r : K) : ∀ p : List K, (∀ n, co (quo r p) n = 0) → ev p r = 0 → ∀ n, co p n = 0
  | [], _, _, n => co_nil n
  | [a], _, h, n => by
    rw [ev, ev, mul_zero, add_zero] at h
    subst h
    match n with
    | 0 => rfl
    | n + 1 => rw [co_succ, co_nil]
  | a :: b :: t, hq, h, n => by
    have h0 : ev (b :: t) r = 0 := by have := hq 0; rwa [quo, co_zero] at this
    have hz := quo_zeros r (b :: t) (fun n => by have := hq (n + 1); rwa [quo, co_succ] at this) h0
    rw [ev, h0, mul_zero, add_zero] at h
    subst h
    match n with
    | 0 => rfl
    | n + 1 => rw [co_succ]; exact hz n
/-- A polynomial with as many roots as it is long is nothing. -/
theorem roots_zero : ∀ (rs : List K) (p : List K), p.length ≤ rs.length → rs.Nodup → (∀ r ∈ rs, ev p r = 0) → ∀ n, co p n = 0
  | [], p, hl, _, _, n => by
    have : p = [] := List.eq_nil_of_length_eq_zero (by simpa using hl)
    subst this; exact co_nil n
  | r :: rs, p, hl, hn, hr, n => by
    have h0 := hr r (by simp)
    refine quo_zeros r p ?_ h0 n
    rw [List.nodup_cons] at hn
    refine roots_zero rs (quo r p) (by rw [quo_len]; simp at hl; omega) hn.2 fun s hs => ?_
    have h1 := hr s (List.mem_cons_of_mem _ hs)
    rw [ev_quo r, h0, zero_add] at h1
    rcases mul_eq_zero h1 with h2 | h2
    · exact absurd (eq_of_add h2) (fun e => hn.1 (e ▸ hs))
    · exact h2
theorem roots_deg {rs p : List K} {m : Nat} (hd : Deg p m) (hl : m ≤ rs.length) (hn : rs.Nodup) (hr : ∀ r ∈ rs, ev p r = 0) : ∀ n, co p n = 0 := by
  have h := roots_zero rs (p.take m) (by rw [List.length_take]; omega) hn (fun r hr' => by rw [ev_eqv (take_eqv hd)]; exact hr r hr')
  intro n
  rw [← take_eqv hd n]; exact h n
/-- The product of (1 + a x). -/
def plocs : List K → List K
  | [] => [1]
  | a :: l => pm [1, a] (plocs l)
/-- The product of (x + a). -/
def prs : List K → List K
  | [] => [1]
  | a :: l => pm [a, 1] (prs l)
end Go.Proofs.Ytdcjionaedcfoaa.Gf
