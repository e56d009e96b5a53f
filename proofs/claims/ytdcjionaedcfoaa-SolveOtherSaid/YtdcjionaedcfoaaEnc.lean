/- What is encoded is right: plainly. -/
import Derived.Test.YtdcjionaedcfoaaBmM
set_option linter.unusedVariables false
set_option linter.unusedSimpArgs false
namespace Go.Proofs.Ytdcjionaedcfoaa.Solve
open Go.Proofs.Ytdcjionaedcfoaa.Gf Go.Proofs.Ytdcjionaedcfoaa.Gf.K Go.Proofs.Ytdcjionaedcfoaa.Poly Go.Proofs.Ytdcjionaedcfoaa.Rs

/-! ### Values, the highest power first -/
def hev (l : List UInt8) (x : K) : K := ev (kk l.reverse) x
theorem hev_peval (l : List UInt8) (x : UInt8) : (⟨peval l x⟩ : K) = hev l ⟨x⟩ := ev_word x l
theorem hev_nil (x : K) : hev [] x = 0 := rfl
theorem ev_append : ∀ (a b : List K) (x : K), ev (a ++ b) x = ev a x + pow x a.length * ev b x
  | [], b, x => by rw [List.nil_append, ev, List.length_nil, pow, K.one_mul, K.zero_add]
  | c :: a, b, x => by
    rw [List.cons_append, ev, ev_append a b x, ev, List.length_cons, pow, K.mul_add]
    rw [show x * (pow x a.length * ev b x) = pow x a.length * x * ev b x by ac_rfl, K.add_assoc]
theorem hev_append (a b : List UInt8) (x : K) : hev (a ++ b) x = hev a x * pow x b.length + hev b x := by
  unfold hev
  have : kk (a ++ b).reverse = kk b.reverse ++ kk a.reverse := by simp [kk]
  rw [this, ev_append, kk_len, List.length_reverse, K.add_comm, K.mul_comm]
theorem hev_one (a : UInt8) (x : K) : hev [a] x = ⟨a⟩ := by
  show (⟨a⟩ : K) + x * 0 = _
  rw [K.mul_zero, K.add_zero]
theorem hev_cons (a : UInt8) (l : List UInt8) (x : K) : hev (a :: l) x = ⟨a⟩ * pow x l.length + hev l x := by
  rw [show a :: l = [a] ++ l from rfl, hev_append, hev_one]
theorem hev_zeros (n : Nat) (x : K) : hev (List.replicate n 0) x = 0 := by
  induction n with
  | zero => rfl
  | succ n ih => rw [List.replicate_succ, hev_cons, ih, K.add_zero]; exact K.zero_mul _
theorem hev_set : ∀ (l : List UInt8) (j : Nat) (v : UInt8) (x : K), j < l.length → hev (l.set j v) x = hev l x + (⟨v⟩ + ⟨l.getD j 0⟩) * pow x (l.length - 1 - j)
  | [], j, v, x, h => by simp at h
  | a :: l, 0, v, x, _ => by
    rw [List.set_cons_zero, hev_cons, hev_cons, List.length_cons, show l.length + 1 - 1 - 0 = l.length by omega]
    show _ = _ + ((⟨v⟩ : K) + ⟨a⟩) * _
    rw [K.add_mul]
    have : (⟨a⟩ : K) * pow x l.length + hev l x + (⟨v⟩ * pow x l.length + ⟨a⟩ * pow x l.length) = (⟨a⟩ * pow x l.length + ⟨a⟩ * pow x l.length) + (⟨v⟩ * pow x l.length + hev l x) := by ac_rfl
    rw [this, K.add_self, K.zero_add]
  | a :: l, j + 1, v, x, h => by
    simp only [List.length_cons] at h
    rw [List.set_cons_succ, hev_cons, hev_cons, hev_set l j v x (by omega), List.length_set, List.length_cons, show l.length + 1 - 1 - (j + 1) = l.length - 1 - j by omega, List.getD_cons_succ, K.add_assoc]
theorem trim_hev (x : K) : ∀ l : List UInt8, hev (trim l) x = hev l x
  | [] => rfl
  | a :: l => by
    rw [trim]
    split
    · next h => rw [trim_hev x l, hev_cons, h]; exact (by rw [show ((⟨0⟩ : K) = 0) from rfl, K.zero_mul, K.zero_add])
    · rfl
theorem trim_hd : ∀ (l : List UInt8) (a : UInt8) (m : List UInt8), trim l = a :: m → a ≠ 0
  | [], _, _, h => by cases h
  | b :: l, a, m, h => by
    rw [trim] at h
    split at h
    · exact trim_hd l a m h
    · next hb => cases h; exact hb
theorem trim_id {l : List UInt8} (h : l.getD 0 0 ≠ 0) : trim l = l := by
  cases l with
  | nil => rfl
  | cons a l => rw [trim, if_neg (by simpa using h)]
theorem trim_lead : ∀ (l : List UInt8) (n : Nat), (∀ t, t < n → l.getD t 0 = 0) → (trim l).length ≤ l.length - n
  | [], n, _ => by simp [trim]
  | a :: l, 0, _ => by
    have : ∀ m : List UInt8, (trim m).length ≤ m.length := fun m => by
      induction m with
      | nil => simp [trim]
      | cons b m ih => rw [trim]; split <;> simp only [List.length_cons] <;> omega
    exact this _
  | a :: l, n + 1, h => by
    have h0 : a = 0 := by have := h 0 (by omega); simpa using this
    rw [trim, if_pos h0]
    have := trim_lead l n fun t ht => by have := h (t + 1) (by omega); rwa [List.getD_cons_succ] at this
    simp only [List.length_cons]; omega

/-! ### Products -/
theorem mrow_len' (x : UInt8) : ∀ (ys : List UInt8) (j : Nat) (out : List UInt8), (mrow x ys j out).length = out.length
  | [], _, _ => rfl
  | y :: ys, j, out => by rw [mrow, mrow_len' x ys, List.length_set]
theorem mrow_low (x : UInt8) : ∀ (ys : List UInt8) (j : Nat) (out : List UInt8) (t : Nat), t < j → (mrow x ys j out).getD t 0 = out.getD t 0
  | [], _, _, _, _ => rfl
  | y :: ys, j, out, t, h => by
    rw [mrow, mrow_low x ys (j + 1) _ t (by omega), List.getD_eq_getElem?_getD, List.getElem?_set_ne (by omega), List.getD_eq_getElem?_getD]
theorem mrow_head (x y : UInt8) (ys : List UInt8) (j : Nat) (out : List UInt8) (h : j < out.length) : (mrow x (y :: ys) j out).getD j 0 = gadd [out.getD j 0, gmul [x, y]] := by
  rw [mrow, mrow_low x ys (j + 1) _ j (by omega), List.getD_eq_getElem?_getD, List.getElem?_set_self h]; rfl
theorem mrow_hev (x : UInt8) (X : K) : ∀ (ys : List UInt8) (j : Nat) (out : List UInt8), j + ys.length ≤ out.length → hev (mrow x ys j out) X = hev out X + ⟨x⟩ * hev ys X * pow X (out.length - j - ys.length)
  | [], j, out, h => by rw [mrow, hev_nil, K.mul_zero, K.zero_mul, K.add_zero]
  | y :: ys, j, out, h => by
    simp only [List.length_cons] at h
    rw [mrow, mrow_hev x X ys (j + 1) _ (by rw [List.length_set]; omega), hev_set _ _ _ _ (by omega), List.length_set, k_add, k_mul, hev_cons, List.length_cons]
    have e1 : out.length - 1 - j = ys.length + (out.length - j - (ys.length + 1)) := by omega
    have e2 : out.length - (j + 1) - ys.length = out.length - j - (ys.length + 1) := by omega
    rw [e1, e2, pow_add]
    have h3 : (⟨out.getD j 0⟩ : K) + ⟨x⟩ * ⟨y⟩ + ⟨out.getD j 0⟩ = ⟨x⟩ * ⟨y⟩ := by
      rw [K.add_comm ⟨out.getD j 0⟩, K.add_assoc, K.add_self, K.add_zero]
    rw [h3, K.mul_add, K.add_mul]
    generalize pow X ys.length = u
    generalize pow X (out.length - j - (ys.length + 1)) = v
    rw [show (⟨x⟩ : K) * ⟨y⟩ * (u * v) = ⟨x⟩ * (⟨y⟩ * u) * v by ac_rfl, K.add_assoc]
theorem mall_len' : ∀ (xs ys : List UInt8) (i : Nat) (out : List UInt8), (mall xs ys i out).length = out.length
  | [], _, _, _ => rfl
  | x :: xs, ys, i, out => by rw [mall, mall_len' xs, mrow_len']
theorem mall_low : ∀ (xs ys : List UInt8) (i : Nat) (out : List UInt8) (t : Nat), t < i → (mall xs ys i out).getD t 0 = out.getD t 0
  | [], _, _, _, _, _ => rfl
  | x :: xs, ys, i, out, t, h => by rw [mall, mall_low xs ys (i + 1) _ t (by omega), mrow_low x ys i out t h]
theorem mall_hev (X : K) : ∀ (xs ys : List UInt8) (i : Nat) (out : List UInt8), i + xs.length + ys.length ≤ out.length + 1 → 0 < ys.length → hev (mall xs ys i out) X = hev out X + hev xs X * hev ys X * pow X (out.length + 1 - i - xs.length - ys.length)
  | [], ys, i, out, h, _ => by rw [mall, hev_nil, K.zero_mul, K.zero_mul, K.add_zero]
  | x :: xs, ys, i, out, h, hy => by
    simp only [List.length_cons] at h
    rw [mall, mall_hev X xs ys (i + 1) _ (by rw [mrow_len']; omega) hy, mrow_len', mrow_hev x X ys i out (by omega), hev_cons, K.add_mul, K.add_mul, List.length_cons, K.add_assoc]
    have e1 : out.length - i - ys.length = xs.length + (out.length + 1 - i - (xs.length + 1) - ys.length) := by omega
    have e2 : out.length + 1 - (i + 1) - xs.length - ys.length = out.length + 1 - i - (xs.length + 1) - ys.length := by omega
    rw [e1, e2, pow_add]
    congr 2
    ac_rfl
theorem two_hev (a b : List UInt8) (X : K) : hev (ptwo a b) X = hev a X * hev b X := by
  unfold ptwo
  split
  · next h =>
    rcases h with h | h
    · rw [← trim_hev X a, h, hev_nil, K.zero_mul]
    · rw [← trim_hev X b, h, hev_nil, K.mul_zero]
  · next h =>
    have ha : trim a ≠ [] := fun e => h (.inl e)
    have hb : trim b ≠ [] := fun e => h (.inr e)
    have la := List.length_pos_iff.2 ha
    have lb := List.length_pos_iff.2 hb
    rw [mall_hev X _ _ 0 _ (by rw [List.length_replicate]; omega) lb, hev_zeros, K.zero_add, List.length_replicate, trim_hev, trim_hev]
    rw [show (trim a).length + (trim b).length - 1 + 1 - 0 - (trim a).length - (trim b).length = 0 by omega, pow, K.mul_one]
/-- A product with [1, r]: one longer, and as its head the head. -/
theorem two_fac {a : List UInt8} (ha : a.getD 0 0 ≠ 0) (r : UInt8) : (ptwo a [1, r]).length = a.length + 1 ∧ (ptwo a [1, r]).getD 0 0 ≠ 0 := by
  have h1 : trim a = a := trim_id ha
  have h2 : trim [1, r] = [1, r] := rfl
  cases a with
  | nil => simp at ha
  | cons x a =>
    have h3 : ¬ (x :: a = [] ∨ [1, r] = []) := by simp
    refine ⟨by rw [ptwo, h1, h2, if_neg h3, mall_len', List.length_replicate]; simp, ?_⟩
    rw [ptwo, h1, h2, if_neg h3, mall, mall_low _ _ _ _ _ (by omega), mrow_head _ _ _ _ _ (by simp)]
    intro h
    have h4 : (⟨gadd [(List.replicate ((x :: a).length + [1, r].length - 1) (0 : UInt8)).getD 0 0, gmul [x, 1]]⟩ : K) = 0 := k_zero.2 h
    rw [k_add, k_mul] at h4
    have h5 : (List.replicate ((x :: a).length + [1, r].length - 1) (0 : UInt8)).getD 0 0 = 0 := by simp
    rw [h5, show ((⟨0⟩ : K) = 0) from rfl, K.zero_add, show ((⟨1⟩ : K) = 1) from rfl, K.mul_one] at h4
    exact ha (by simpa using k_zero.1 h4)
theorem facs_ok : ∀ (l out : List UInt8), out.getD 0 0 ≠ 0 → (pmulF (pfacs l) out).length = out.length + l.length ∧ (pmulF (pfacs l) out).getD 0 0 ≠ 0
  | [], out, h => ⟨rfl, h⟩
  | r :: l, out, h => by
    have h1 := two_fac h r
    have h2 := facs_ok l (ptwo out [1, r]) h1.2
    rw [pfacs, List.map_cons, pmulF]
    exact ⟨by rw [show pmulF (l.map fun r => [1, r]) (ptwo out [1, r]) = pmulF (pfacs l) (ptwo out [1, r]) from rfl, h2.1, h1.1, List.length_cons]; omega, h2.2⟩
theorem facs_hev (X : K) : ∀ (l out : List UInt8), hev (pmulF (pfacs l) out) X = 0 ↔ hev out X = 0 ∨ ∃ r ∈ l, (⟨r⟩ : K) = X
  | [], out => by simp [pfacs, pmulF]
  | r :: l, out => by
    rw [pfacs, List.map_cons, pmulF]
    show hev (pmulF (pfacs l) (ptwo out [1, r])) X = 0 ↔ _
    rw [facs_hev X l, two_hev]
    have hf : hev [1, r] X = X + ⟨r⟩ := by rw [hev_cons, hev_one]; show (1 : K) * pow X 1 + _ = _; rw [K.one_mul, pow, pow, K.one_mul]
    rw [hf]
    constructor
    · rintro (h | ⟨s, hs, e⟩)
      · rcases K.mul_eq_zero h with h | h
        · exact .inl h
        · exact .inr ⟨r, by simp, (K.eq_of_add h).symm⟩
      · exact .inr ⟨s, by simp [hs], e⟩
    · rintro (h | ⟨s, hs, e⟩)
      · exact .inl (by rw [h, K.zero_mul])
      · rcases List.mem_cons.1 hs with rfl | hs
        · exact .inl (by rw [e, K.add_self, K.mul_zero])
        · exact .inr ⟨s, hs, e⟩
theorem gen_ok (m : Nat) : (genOf m).length = m + 1 ∧ (genOf m).getD 0 0 ≠ 0 := by
  have := facs_ok ((List.range m).map fun (i : Nat) => gexp (i : Int)) [1] (by simp)
  refine ⟨?_, this.2⟩
  have h := this.1
  rw [List.length_map, List.length_range] at h
  show (pmulF (pfacs _) [1]).length = _
  rw [h]; simp; omega
theorem gen_root (m k : Nat) (hk : k < m) : hev (genOf m) ⟨gexp (k : Int)⟩ = 0 :=
  (facs_hev _ _ _).2 (.inr ⟨gexp (k : Int), List.mem_map.2 ⟨k, by simpa using hk, rfl⟩, rfl⟩)

/-! ### Division -/
theorem div_self (a b : UInt8) (hb : b ≠ 0) : gadd [a, gmul [gdiv a b, b]] = 0 := by
  apply k_zero.1
  rw [k_add, k_mul, gdiv, k_mul, k_inv, K.mul_assoc, inv_mul (fun h => hb (k_zero.1 h)), K.mul_one, K.add_self]
theorem dloop_ok (b : List UInt8) (hb : b.getD 0 0 ≠ 0) : ∀ (n i : Nat) (q rest : List UInt8), i + n + b.length ≤ rest.length + 1 → (∀ t, t < i → rest.getD t 0 = 0) →
    (dloop b n i q rest).2.length = rest.length ∧ (∀ t, t < i + n → (dloop b n i q rest).2.getD t 0 = 0) ∧ ∀ X, hev b X = 0 → hev (dloop b n i q rest).2 X = hev rest X
  | 0, i, q, rest, h, hz => ⟨rfl, fun t ht => hz t (by omega), fun X _ => rfl⟩
  | n + 1, i, q, rest, h, hz => by
    cases b with
    | nil => simp at hb
    | cons b0 bs =>
      have hlen : i < rest.length := by simp only [List.length_cons] at h; omega
      obtain ⟨h1, h2, h3⟩ := dloop_ok (b0 :: bs) hb n (i + 1) (q.set i (gdiv (rest.getD i 0) ((b0 :: bs).getD 0 0))) (mrow (gdiv (rest.getD i 0) ((b0 :: bs).getD 0 0)) (b0 :: bs) i rest) (by rw [mrow_len']; omega) (fun t ht => by
        by_cases e : t = i
        · subst e; rw [mrow_head _ _ _ _ _ hlen]; exact div_self _ _ (by simpa using hb)
        · rw [mrow_low _ _ _ _ _ (by omega)]; exact hz t (by omega))
      rw [dloop]
      refine ⟨by rw [h1, mrow_len'], fun t ht => h2 t (by omega), fun X hX => ?_⟩
      rw [h3 X hX, mrow_hev _ _ _ _ _ (by omega), hX, K.mul_zero, K.zero_mul, K.add_zero]
theorem div_ok (a b : List UInt8) (hb : trim b ≠ []) : (pdiv a b).2.length ≤ (trim b).length - 1 ∧ ∀ X, hev b X = 0 → hev (pdiv a b).2 X = hev a X := by
  have hb0 : (trim b).getD 0 0 ≠ 0 := by
    cases h : trim b with
    | nil => exact absurd h hb
    | cons x l => simpa using trim_hd b x l h
  have hl := List.length_pos_iff.2 hb
  unfold pdiv
  split
  · next h => exact ⟨by show (trim a).length ≤ _; omega, fun X _ => trim_hev X a⟩
  · next h =>
    obtain ⟨h1, h2, h3⟩ := dloop_ok (trim b) hb0 ((trim a).length - (trim b).length + 1) 0 (List.replicate ((trim a).length - (trim b).length + 1) 0) (trim a) (by omega) (fun t ht => by omega)
    refine ⟨?_, fun X hX => ?_⟩
    · have := trim_lead _ _ h2
      show (trim _).length ≤ _
      rw [h1] at this; omega
    · show hev (trim _) X = _
      rw [trim_hev, h3 X (by rw [trim_hev]; exact hX), trim_hev]
theorem shift_hev (a : List UInt8) (m : Nat) (X : K) : hev (pshift a m) X = hev a X * pow X m := by
  unfold pshift
  split
  · next h => rw [← trim_hev X a, h, hev_nil, K.zero_mul]
  · rw [hev_append, hev_zeros, K.add_zero, List.length_replicate, trim_hev]
/-- What is encoded is right. -/
theorem gen_trim (m : Nat) : trim (genOf m) = genOf m := trim_id (gen_ok m).2
theorem gen_ne (m : Nat) : trim (genOf m) ≠ [] := by
  rw [gen_trim]; intro h
  have := (gen_ok m).1; rw [h] at this; simp at this
theorem rest_len (m : Nat) (a : List UInt8) : (pdiv a (genOf m)).2.length ≤ m := by
  have := (div_ok a (genOf m) (gen_ne m)).1
  rw [gen_trim, (gen_ok m).1] at this; omega
theorem parity_len (m : Nat) (data : List UInt8) : (parityOf m data).length = m := by
  unfold parityOf
  have := rest_len m (pshift data m)
  rw [List.length_append, List.length_replicate]; omega
theorem encode_len (m : Nat) (data : List UInt8) : (encodeOf m data).length = data.length + m := by
  rw [encodeOf, List.length_append, parity_len]
theorem encode_right (m : Nat) (data : List UInt8) : rightB m (encodeOf m data) = true := zero_right fun k hk => by
  rw [hev_peval, encodeOf, hev_append, parity_len]
  have h1 : hev (parityOf m data) ⟨gexp (k : Int)⟩ = hev data ⟨gexp (k : Int)⟩ * pow ⟨gexp (k : Int)⟩ m := by
    unfold parityOf
    rw [hev_append, hev_zeros, K.zero_mul, K.zero_add, (div_ok _ _ (gen_ne m)).2 _ (gen_root m k hk), shift_hev]
  rw [h1, K.add_self]
end Go.Proofs.Ytdcjionaedcfoaa.Solve
