/- Sums, products and quotients of lists, the highest power first, as polynomials: plainly. -/
import Derived.Test.YtdcjionaedcfoaaEnc
set_option linter.unusedVariables false
set_option linter.unusedSimpArgs false
namespace Go.Proofs.Ytdcjionaedcfoaa.Solve
open Go.Proofs.Ytdcjionaedcfoaa.Gf Go.Proofs.Ytdcjionaedcfoaa.Gf.K Go.Proofs.Ytdcjionaedcfoaa.Poly Go.Proofs.Ytdcjionaedcfoaa.Rs

/-! ### Sums -/
def arow : List UInt8 → Nat → List UInt8 → List UInt8
  | [], _, out => out
  | y :: ys, j, out => arow ys (j + 1) (out.set j (gadd [out.getD j 0, y]))
def maxLenOf (ls : List (List UInt8)) : Nat := ls.foldl (fun n a => max n a.length) 0
def addAll (n : Nat) : List (List UInt8) → List UInt8 → List UInt8
  | [], out => out
  | a :: ls, out => addAll n ls (arow a (n - a.length) out)
def padds (ls : List (List UInt8)) : List UInt8 := trim (addAll (maxLenOf ls) ls (List.replicate (maxLenOf ls) 0))
theorem arow_len : ∀ (ys : List UInt8) (j : Nat) (out : List UInt8), (arow ys j out).length = out.length
  | [], _, _ => rfl
  | y :: ys, j, out => by rw [arow, arow_len ys, List.length_set]
theorem addAll_len (n : Nat) : ∀ (ls : List (List UInt8)) (out : List UInt8), (addAll n ls out).length = out.length
  | [], _ => rfl
  | a :: ls, out => by rw [addAll, addAll_len n ls, arow_len]
theorem arow_hev (X : K) : ∀ (ys : List UInt8) (j : Nat) (out : List UInt8), j + ys.length ≤ out.length → hev (arow ys j out) X = hev out X + hev ys X * pow X (out.length - j - ys.length)
  | [], j, out, h => by rw [arow, hev_nil, K.zero_mul, K.add_zero]
  | y :: ys, j, out, h => by
    simp only [List.length_cons] at h
    rw [arow, arow_hev X ys (j + 1) _ (by rw [List.length_set]; omega), hev_set _ _ _ _ (by omega), List.length_set, k_add, hev_cons, List.length_cons]
    have e1 : out.length - 1 - j = ys.length + (out.length - j - (ys.length + 1)) := by omega
    have e2 : out.length - (j + 1) - ys.length = out.length - j - (ys.length + 1) := by omega
    rw [e1, e2, pow_add]
    have h3 : (⟨out.getD j 0⟩ : K) + ⟨y⟩ + ⟨out.getD j 0⟩ = ⟨y⟩ := by
      rw [K.add_comm ⟨out.getD j 0⟩, K.add_assoc, K.add_self, K.add_zero]
    rw [h3, K.add_mul]
    generalize pow X ys.length = u
    generalize pow X (out.length - j - (ys.length + 1)) = v
    rw [show (⟨y⟩ : K) * (u * v) = ⟨y⟩ * u * v by ac_rfl, K.add_assoc]
theorem addAll_hev (n : Nat) (X : K) : ∀ (ls : List (List UInt8)) (out : List UInt8), out.length = n → (∀ a ∈ ls, a.length ≤ n) → hev (addAll n ls out) X = hev out X + sumL ls (fun a => hev a X)
  | [], out, _, _ => by rw [addAll, sumL, K.add_zero]
  | a :: ls, out, ho, h => by
    have ha := h a (by simp)
    rw [addAll, addAll_hev n X ls _ (by rw [arow_len, ho]) fun b hb => h b (by simp [hb]), arow_hev X a _ out (by omega), sumL, ho, show n - (n - a.length) - a.length = 0 by omega, pow, K.mul_one, K.add_assoc]
theorem foldl_max (ls : List (List UInt8)) : ∀ n, n ≤ ls.foldl (fun n a => max n a.length) n ∧ ∀ a ∈ ls, a.length ≤ ls.foldl (fun n a => max n a.length) n := by
  induction ls with
  | nil => intro n; exact ⟨Nat.le_refl _, by simp⟩
  | cons a ls ih =>
    intro n
    rw [List.foldl_cons]
    obtain ⟨h1, h2⟩ := ih (max n a.length)
    refine ⟨by omega, fun b hb => ?_⟩
    rcases List.mem_cons.1 hb with rfl | hb
    · omega
    · exact h2 b hb
theorem foldl_max_le (ls : List (List UInt8)) (M : Nat) (h : ∀ a ∈ ls, a.length ≤ M) : ∀ n, n ≤ M → ls.foldl (fun n a => max n a.length) n ≤ M := by
  induction ls with
  | nil => intro n hn; exact hn
  | cons a ls ih => intro n hn; rw [List.foldl_cons]; exact ih (fun b hb => h b (by simp [hb])) _ (by have := h a (by simp); omega)
theorem padds_hev (ls : List (List UInt8)) (X : K) : hev (padds ls) X = sumL ls (fun a => hev a X) := by
  have h : ∀ a ∈ ls, a.length ≤ maxLenOf ls := (foldl_max ls 0).2
  rw [padds, trim_hev, addAll_hev _ X ls _ (by simp) h, hev_zeros, K.zero_add]
theorem trim_len (l : List UInt8) : (trim l).length ≤ l.length := by have := trim_lead l 0 (fun t ht => by omega); omega
theorem padds_len (ls : List (List UInt8)) (M : Nat) (h : ∀ a ∈ ls, a.length ≤ M) : (padds ls).length ≤ M := by
  have h1 := trim_len (addAll (maxLenOf ls) ls (List.replicate (maxLenOf ls) 0))
  rw [addAll_len, List.length_replicate] at h1
  have h2 := foldl_max_le ls M h 0 (by omega)
  unfold padds maxLenOf at *
  omega
/-! ### Lists as polynomials, the highest power first -/
def hk (l : List UInt8) : List K := kk l.reverse
theorem hk_len (l : List UInt8) : (hk l).length = l.length := by rw [hk, kk_len, List.length_reverse]
theorem hk_deg (l : List UInt8) : Deg (hk l) l.length := by have := deg_len (hk l); rwa [hk_len] at this
theorem hk_ev (l : List UInt8) (x : K) : ev (hk l) x = hev l x := rfl
/-- All powers of x. -/
def allX : List K := (List.range 255).map fun (i : Nat) => X (i : Int)
theorem allX_nodup : allX.Nodup := by
  unfold allX
  rw [List.Nodup, List.pairwise_iff_getElem]
  intro i j hi hj hij he
  have hi' : i < 255 := by simpa using hi
  have hj' : j < 255 := by simpa using hj
  simp only [List.getElem_map, List.getElem_range] at he
  have := X_inj (m := (i : Int)) (n := (j : Int)) (by omega) (by omega) he
  omega
/-- What has the same values, and isn't too long, is the same. -/
theorem eqv_of_ev {p q : List K} (hp : Deg p 255) (hq : Deg q 255) (h : ∀ x, ev p x = ev q x) : Eqv p q := by
  have h1 := roots_deg (rs := allX) (hp.padd hq) (by simp [allX]) allX_nodup (fun r _ => by rw [ev_padd, h r, K.add_self])
  intro n
  have := h1 n
  rw [co_padd] at this
  exact K.eq_of_add this
theorem hk_two (a b : List UInt8) (h : a.length + b.length ≤ 255) : Eqv (hk (ptwo a b)) (pm (hk a) (hk b)) := by
  have hl : (ptwo a b).length ≤ a.length + b.length := by
    have h1 := trim_len a; have h2 := trim_len b
    unfold ptwo
    split
    · simp
    · rw [mall_len', List.length_replicate]; omega
  refine eqv_of_ev ((hk_deg _).mono (by omega)) ?_ fun x => by rw [ev_pm, hk_ev, two_hev]; rfl
  have := Deg.pm (m := a.length) (n := b.length) ((hk_deg a).mono (by omega)) (hk_deg b)
  exact this.mono h
theorem two_len_le (a b : List UInt8) : (ptwo a b).length ≤ a.length + b.length := by
  have h1 := trim_len a; have h2 := trim_len b
  unfold ptwo
  split
  · simp
  · rw [mall_len', List.length_replicate]; omega
theorem mul2 (a b : List UInt8) : pmul [a, b] = ptwo (ptwo [1] a) b := rfl
theorem two_one (a : List UInt8) : (ptwo [1] a).length ≤ a.length := by
  unfold ptwo
  split
  · simp
  · rw [mall_len', List.length_replicate]; have := trim_len a; have : trim [1] = [1] := rfl; rw [this]; simp; omega
theorem hk_mul2 (a b : List UInt8) (h : a.length + b.length ≤ 250) : Eqv (hk (pmul [a, b])) (pm (hk a) (hk b)) := by
  rw [mul2]
  have h1 := two_one a
  refine (hk_two _ b (by omega)).trans (pm_eqv ?_ (Eqv.refl _))
  exact (hk_two [1] a (by simp; omega)).trans (pm_one _)
theorem mul2_len (a b : List UInt8) : (pmul [a, b]).length ≤ a.length + b.length := by
  rw [mul2]; have := two_len_le (ptwo [1] a) b; have := two_one a; omega
theorem hk_adds2 (a b : List UInt8) (M : Nat) (ha : a.length ≤ M) (hb : b.length ≤ M) (hM : M ≤ 255) : Eqv (hk (padds [a, b])) (padd (hk a) (hk b)) := by
  have hl := padds_len [a, b] M (fun c hc => by simp at hc; rcases hc with rfl | rfl <;> assumption)
  refine eqv_of_ev ((hk_deg _).mono (by omega)) (((hk_deg a).mono (by omega)).padd ((hk_deg b).mono (by omega))) fun x => ?_
  rw [ev_padd, hk_ev, padds_hev, sumL, sumL, sumL, K.add_zero]; rfl
theorem two_head {a b : List UInt8} (ha : trim a ≠ []) (hb : trim b ≠ []) : (ptwo a b).getD 0 0 ≠ 0 ∧ (ptwo a b).length = (trim a).length + (trim b).length - 1 := by
  have h : ¬ (trim a = [] ∨ trim b = []) := by simp [ha, hb]
  rw [ptwo, if_neg h]
  refine ⟨?_, by rw [mall_len', List.length_replicate]⟩
  cases hx : trim a with
  | nil => exact absurd hx ha
  | cons x xs =>
    cases hy : trim b with
    | nil => exact absurd hy hb
    | cons y ys =>
      rw [mall, mall_low _ _ _ _ _ (by omega), mrow_head _ _ _ _ _ (by simp; omega)]
      intro h0
      have h4 : (⟨gadd [(List.replicate ((x :: xs).length + (y :: ys).length - 1) (0 : UInt8)).getD 0 0, gmul [x, y]]⟩ : K) = 0 := k_zero.2 h0
      have h5 : (List.replicate ((x :: xs).length + (y :: ys).length - 1) (0 : UInt8)).getD 0 0 = 0 := by rw [List.getD_eq_getElem?_getD, List.getElem?_replicate]; split <;> rfl
      rw [k_add, k_mul, h5, show ((⟨0⟩ : K) = 0) from rfl, K.zero_add] at h4
      rcases K.mul_eq_zero h4 with h6 | h6
      · exact trim_hd a x xs hx (k_zero.1 h6)
      · exact trim_hd b y ys hy (k_zero.1 h6)
theorem trim_trim : ∀ l : List UInt8, trim (trim l) = trim l
  | [] => rfl
  | a :: l => by
    by_cases h : a = 0
    · rw [trim, if_pos h, trim_trim l]
    · rw [trim, if_neg h, trim, if_neg h]
theorem hd_co {l : List UInt8} (h : l.getD 0 0 ≠ 0) : co (hk l) (l.length - 1) ≠ 0 := by
  cases l with
  | nil => simp at h
  | cons a l =>
    rw [hk, co_kk, List.reverse_cons]
    have : (l.reverse ++ [a]).getD ((a :: l).length - 1) 0 = a := by
      rw [List.getD_eq_getElem?_getD, List.getElem?_append_right (by simp)]; simp
    rw [this]
    intro h0; exact h (by simpa using k_zero.1 h0)
theorem trim_hd0 {l : List UInt8} (h : trim l ≠ []) : (trim l).getD 0 0 ≠ 0 := by
  cases hx : trim l with
  | nil => exact absurd hx h
  | cons x xs => simpa using trim_hd l x xs hx
/-! ### Division, whole -/
theorem dloop_full (b : List UInt8) (hb : b.getD 0 0 ≠ 0) (X : K) : ∀ (n i : Nat) (q rest : List UInt8), q.length = i + n → i + n + b.length = rest.length + 1 → (∀ t, i ≤ t → q.getD t 0 = 0) →
    (dloop b n i q rest).1.length = q.length ∧ hev (dloop b n i q rest).1 X * hev b X + hev (dloop b n i q rest).2 X = hev q X * hev b X + hev rest X
  | 0, i, q, rest, _, _, _ => ⟨rfl, rfl⟩
  | n + 1, i, q, rest, hq, h, hz => by
    have hbl : 0 < b.length := by cases b with | nil => simp at hb | cons _ _ => simp
    obtain ⟨h1, h2⟩ := dloop_full b hb X n (i + 1) (q.set i (gdiv (rest.getD i 0) (b.getD 0 0))) (mrow (gdiv (rest.getD i 0) (b.getD 0 0)) b i rest) (by rw [List.length_set]; omega) (by rw [mrow_len']; omega) (fun t ht => by
      rw [List.getD_eq_getElem?_getD, List.getElem?_set_ne (by omega), ← List.getD_eq_getElem?_getD]; exact hz t (by omega))
    rw [dloop]
    refine ⟨by rw [h1, List.length_set], ?_⟩
    rw [h2, hev_set _ _ _ _ (by omega), mrow_hev _ _ _ _ _ (by omega), hz i (Nat.le_refl _), show ((⟨0⟩ : K) = 0) from rfl, K.add_zero, show rest.length - i - b.length = q.length - 1 - i by omega]
    generalize gdiv (rest.getD i 0) (b.getD 0 0) = g
    generalize pow X (q.length - 1 - i) = u
    rw [K.add_mul]
    have : hev q X * hev b X + ⟨g⟩ * u * hev b X + (hev rest X + ⟨g⟩ * hev b X * u) = (⟨g⟩ * hev b X * u + ⟨g⟩ * hev b X * u) + (hev q X * hev b X + hev rest X) := by
      rw [show (⟨g⟩ : K) * u * hev b X = ⟨g⟩ * hev b X * u by ac_rfl]; ac_rfl
    rw [this, K.add_self, K.zero_add]
theorem div_full (a b : List UInt8) (hb : trim b ≠ []) (X : K) : hev (pdiv a b).1 X * hev b X + hev (pdiv a b).2 X = hev a X := by
  unfold pdiv
  split
  · rw [hev_nil, K.zero_mul, K.zero_add, trim_hev]
  · next h =>
    obtain ⟨_, h2⟩ := dloop_full (trim b) (trim_hd0 hb) X ((trim a).length - (trim b).length + 1) 0 (List.replicate ((trim a).length - (trim b).length + 1) 0) (trim a) (by simp) (by have := List.length_pos_iff.2 hb; omega) (fun t _ => by simp [List.getD_eq_getElem?_getD, List.getElem?_replicate]; split <;> rfl)
    show hev (dloop _ _ _ _ _).1 X * hev b X + hev (trim _) X = _
    rw [trim_hev, ← trim_hev X b, h2, hev_zeros, K.zero_mul, K.zero_add, trim_hev]
theorem div_qlen (a b : List UInt8) (hb : trim b ≠ []) : (pdiv a b).1.length ≤ (trim a).length - (trim b).length + 1 := by
  unfold pdiv
  split
  · simp
  · obtain ⟨h1, _⟩ := dloop_full (trim b) (trim_hd0 hb) 0 ((trim a).length - (trim b).length + 1) 0 (List.replicate ((trim a).length - (trim b).length + 1) 0) (trim a) (by simp) (by have := List.length_pos_iff.2 hb; omega) (fun t _ => by simp [List.getD_eq_getElem?_getD, List.getElem?_replicate]; split <;> rfl)
    show (dloop _ _ _ _ _).1.length ≤ _
    rw [h1]; simp
theorem rest_trim (a b : List UInt8) : trim (pdiv a b).2 = (pdiv a b).2 := by
  unfold pdiv; split <;> exact trim_trim _
end Go.Proofs.Ytdcjionaedcfoaa.Solve
