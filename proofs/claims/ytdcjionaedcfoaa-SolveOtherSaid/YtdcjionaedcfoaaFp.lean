/- The field of 256 bytes, plainly: its tables, and its laws. -/
set_option linter.unusedVariables false
set_option linter.unusedSimpArgs false
namespace Go.Proofs.Ytdcjionaedcfoaa.Gf

def stepB (b : UInt8) : UInt8 := if b &&& 128 = 0 then b <<< 1 else (b <<< 1) ^^^ 29
def powT : Nat → UInt8
  | 0 => 1
  | n + 1 => stepB (powT n)
def tabE (i j : Nat) : UInt8 := if j < i then powT j else 0
def tabL : Nat → Nat → Nat
  | 0, _ => 0
  | i + 1, b => if b = (powT i).toNat then i else tabL i b
def gexp (n : Int) : UInt8 := powT (n % 255).toNat
def glog (a : UInt8) : Int := tabL 255 a.toNat
def gadd (l : List UInt8) : UInt8 := l.foldl (· ^^^ ·) 0
def gsum (l : List UInt8) : Int := (l.map glog).sum
def gmul (l : List UInt8) : UInt8 := if 0 ∈ l then 0 else gexp (gsum l)
def ginv (a : UInt8) : UInt8 := gexp (-glog a)
def gdiv (a b : UInt8) : UInt8 := gmul [a, ginv b]

/-! ### The powers -/
theorem u8_every (P : UInt8 → Prop) (h : ∀ n : Fin 256, P (UInt8.ofFin n)) (a : UInt8) : P a := by
  have := h a.toFin
  simpa using this
theorem msb_cases (a : UInt8) : a &&& 128 = 0 ∨ a &&& 128 = 128 := u8_every (fun a => a &&& 128 = 0 ∨ a &&& 128 = 128) (by decide +kernel) a
theorem shl_xor (a b : UInt8) : (a ^^^ b) <<< 1 = (a <<< 1) ^^^ (b <<< 1) := by
  apply UInt8.toBitVec_inj.1
  simp [UInt8.toBitVec_shiftLeft, UInt8.toBitVec_xor, BitVec.shiftLeft_xor_distrib]
theorem and_xor (a b c : UInt8) : (a ^^^ b) &&& c = (a &&& c) ^^^ (b &&& c) := by
  apply UInt8.toBitVec_inj.1
  simp only [UInt8.toBitVec_and, UInt8.toBitVec_xor]
  ext i
  simp [Bool.and_xor_distrib_right]
theorem stepB_xor (a b : UInt8) : stepB (a ^^^ b) = stepB a ^^^ stepB b := by
  unfold stepB
  rw [shl_xor, and_xor]
  rcases msb_cases a with h | h <;> rcases msb_cases b with k | k <;> rw [h, k] <;> simp
  · rw [UInt8.xor_assoc]
  · rw [UInt8.xor_assoc, UInt8.xor_assoc, UInt8.xor_comm 29]
  · rw [UInt8.xor_assoc, ← UInt8.xor_assoc 29, UInt8.xor_comm 29 (b <<< 1), UInt8.xor_assoc (b <<< 1), UInt8.xor_self]; simp
theorem stepB_zero : stepB 0 = 0 := by decide
theorem stepB_nz (a : UInt8) : stepB a = 0 → a = 0 := u8_every (fun a => stepB a = 0 → a = 0) (by decide +kernel) a
theorem xor_zero_eq {a b : UInt8} (h : a ^^^ b = 0) : a = b := by
  have : (a ^^^ b) ^^^ b = b := by rw [h]; simp
  rwa [UInt8.xor_assoc, UInt8.xor_self, UInt8.xor_zero] at this
theorem stepB_inj {a b : UInt8} (h : stepB a = stepB b) : a = b :=
  xor_zero_eq (stepB_nz _ (by rw [stepB_xor, h, UInt8.xor_self]))
def stepN : Nat → UInt8 → UInt8
  | 0, b => b
  | n + 1, b => stepB (stepN n b)
theorem stepN_xor : ∀ (n : Nat) (a b : UInt8), stepN n (a ^^^ b) = stepN n a ^^^ stepN n b
  | 0, _, _ => rfl
  | n + 1, a, b => by rw [stepN, stepN_xor n, stepB_xor]; rfl
theorem stepN_zero : ∀ n, stepN n 0 = 0
  | 0 => rfl
  | n + 1 => by rw [stepN, stepN_zero n, stepB_zero]
theorem stepN_pow : ∀ n j, stepN n (powT j) = powT (n + j)
  | 0, j => by rw [Nat.zero_add]; rfl
  | n + 1, j => by rw [stepN, stepN_pow n, Nat.add_right_comm]; rfl
theorem stepN_add : ∀ m n b, stepN (m + n) b = stepN m (stepN n b)
  | 0, n, b => by rw [Nat.zero_add]; rfl
  | m + 1, n, b => by rw [Nat.add_right_comm, stepN, stepN_add m]; rfl
theorem stepN_inj : ∀ n {a b : UInt8}, stepN n a = stepN n b → a = b
  | 0, _, _, h => h
  | n + 1, _, _, h => stepN_inj n (stepB_inj h)
/-- Is 1 met only at the end? -/
def walkB : Nat → UInt8 → Bool
  | 0, b => b == 1
  | n + 1, b => b != 1 && walkB n (stepB b)
theorem walkB_ok : walkB 254 2 = true := by decide +kernel
theorem walkB_spec : ∀ n b, walkB n b = true → stepN n b = 1 ∧ ∀ i, i < n → stepN i b ≠ 1
  | 0, b, h => ⟨by simpa [walkB, stepN] using h, fun i hi => by omega⟩
  | n + 1, b, h => by
    simp only [walkB, Bool.and_eq_true, bne_iff_ne] at h
    obtain ⟨h1, h2⟩ := walkB_spec n _ h.2
    have e : ∀ i, stepN (i + 1) b = stepN i (stepB b) := fun i => by rw [stepN_add i 1]; rfl
    refine ⟨by rw [e]; exact h1, fun i hi => ?_⟩
    match i with
    | 0 => exact h.1
    | i + 1 => rw [e]; exact h2 i (by omega)
theorem pow_as (n : Nat) : powT (n + 1) = stepN n 2 := by
  have := stepN_pow n 1
  rw [← this]; rfl
theorem pow_255 : powT 255 = 1 := by rw [pow_as]; exact (walkB_spec _ _ walkB_ok).1
theorem pow_ne_one {d : Nat} (h0 : 0 < d) (h : d < 255) : powT d ≠ 1 := by
  obtain ⟨e, rfl⟩ : ∃ e, d = e + 1 := ⟨d - 1, by omega⟩
  rw [pow_as]; exact (walkB_spec _ _ walkB_ok).2 e (by omega)
theorem pow_add255 (n : Nat) : powT (n + 255) = powT n := by
  rw [← stepN_pow, pow_255]
  have := stepN_pow n 0
  rw [Nat.add_zero] at this
  exact this
theorem pow_add_mul (n k : Nat) : powT (n + 255 * k) = powT n := by
  induction k with
  | zero => rfl
  | succ k ih => rw [Nat.mul_succ, ← Nat.add_assoc, pow_add255, ih]
theorem pow_mod (n : Nat) : powT (n % 255) = powT n := by
  have := pow_add_mul (n % 255) (n / 255)
  rw [← this]; congr 1; omega
theorem pow_inj {i j : Nat} (hi : i < 255) (hj : j < 255) (h : powT i = powT j) : i = j := by
  have main : ∀ a b : Nat, a < b → b < 255 → powT a ≠ powT b := by
    intro a b hab hb he
    have h1 : powT b = stepN a (powT (b - a)) := by rw [stepN_pow]; congr 1; omega
    have h2 : powT a = stepN a (powT 0) := by rw [stepN_pow]; rfl
    rw [h1, h2] at he
    exact pow_ne_one (d := b - a) (by omega) (by omega) (stepN_inj a he).symm
  rcases Nat.lt_trichotomy i j with h1 | h1 | h1
  · exact absurd h (main i j h1 hj)
  · exact h1
  · exact absurd h.symm (main j i h1 hi)
/-- Is a byte met within so many steps? -/
def meets : Nat → UInt8 → UInt8 → Bool
  | 0, _, _ => false
  | n + 1, b, a => a == b || meets n (stepB b) a
theorem meets_spec : ∀ n k a, meets n (powT k) a = true → ∃ j, j < k + n ∧ powT j = a
  | 0, _, _, h => by simp [meets] at h
  | n + 1, k, a, h => by
    simp only [meets, Bool.or_eq_true, beq_iff_eq] at h
    rcases h with h | h
    · exact ⟨k, by omega, h.symm⟩
    · obtain ⟨j, hj, e⟩ := meets_spec n (k + 1) a h
      exact ⟨j, by omega, e⟩
theorem pow_onto (a : UInt8) (h : a ≠ 0) : ∃ j, j < 255 ∧ powT j = a := by
  have key : ∀ a : UInt8, (a == 0 || meets 255 1 a) = true := u8_every _ (by decide +kernel)
  have := key a
  simp only [Bool.or_eq_true, beq_iff_eq] at this
  obtain ⟨j, hj, e⟩ := meets_spec 255 0 a (this.resolve_left h)
  exact ⟨j, by omega, e⟩
theorem tabL_is : ∀ (i : Nat) (b : UInt8), (∃ j, j < i ∧ powT j = b) → powT (tabL i b.toNat) = b ∧ tabL i b.toNat < i
  | 0, b, ⟨j, hj, _⟩ => by omega
  | i + 1, b, ⟨j, hj, e⟩ => by
    unfold tabL
    by_cases h : b.toNat = (powT i).toNat
    · rw [if_pos h]; exact ⟨(UInt8.toNat_inj.1 h).symm, by omega⟩
    · rw [if_neg h]
      have hne : j ≠ i := fun h' => h (by rw [← e, h'])
      obtain ⟨h1, h2⟩ := tabL_is i b ⟨j, by omega, e⟩
      exact ⟨h1, by omega⟩
theorem log_pow (a : UInt8) (h : a ≠ 0) : powT (glog a).toNat = a ∧ 0 ≤ glog a ∧ glog a < 255 := by
  obtain ⟨h1, h2⟩ := tabL_is 255 a (pow_onto a h)
  unfold glog
  exact ⟨by rw [Int.toNat_natCast]; exact h1, by omega, by omega⟩
theorem exp_log (a : UInt8) (h : a ≠ 0) : gexp (glog a) = a := by
  obtain ⟨h1, h2, h3⟩ := log_pow a h
  unfold gexp
  rw [Int.emod_eq_of_lt h2 h3]; exact h1
theorem log_exp (n : Int) : glog (gexp n) = n % 255 := by
  have h0 : 0 ≤ n % 255 ∧ n % 255 < 255 := by omega
  have hne : gexp n ≠ 0 := by
    intro h
    unfold gexp at h
    have : stepN (n % 255).toNat 1 = stepN (n % 255).toNat 0 := by
      rw [stepN_zero, ← h]; exact (stepN_pow _ 0)
    exact absurd (stepN_inj _ this) (by decide)
  obtain ⟨h1, h2, h3⟩ := log_pow _ hne
  have := pow_inj (by omega) (by omega) (h1.trans (show gexp n = powT (n % 255).toNat from rfl))
  omega
theorem powT_nz (n : Nat) : powT n ≠ 0 := by
  intro h
  have : stepN n 1 = stepN n 0 := by rw [stepN_zero, ← h]; exact stepN_pow n 0
  exact absurd (stepN_inj _ this) (by decide)
theorem gexp_nz (n : Int) : gexp n ≠ 0 := powT_nz _
theorem gexp_nat (n : Nat) : gexp (n : Int) = powT n := by
  unfold gexp
  rw [← pow_mod n]; congr 1
theorem gexp_mod (n : Int) : gexp (n % 255) = gexp n := by unfold gexp; rw [Int.emod_emod_of_dvd _ (by decide)]

/-! ### The field -/
structure K where
  v : UInt8
deriving DecidableEq
instance : Add K := ⟨fun a b => ⟨a.v ^^^ b.v⟩⟩
instance : Mul K := ⟨fun a b => ⟨gmul [a.v, b.v]⟩⟩
instance : OfNat K 0 := ⟨⟨0⟩⟩
instance : OfNat K 1 := ⟨⟨1⟩⟩
namespace K
theorem ext {a b : K} (h : a.v = b.v) : a = b := by cases a; cases b; cases h; rfl
theorem add_v (a b : K) : (a + b).v = a.v ^^^ b.v := rfl
theorem mul_v (a b : K) : (a * b).v = gmul [a.v, b.v] := rfl
theorem zero_v : (0 : K).v = 0 := rfl
theorem one_v : (1 : K).v = 1 := rfl
theorem add_comm (a b : K) : a + b = b + a := ext (UInt8.xor_comm _ _)
theorem add_assoc (a b c : K) : a + b + c = a + (b + c) := ext (UInt8.xor_assoc _ _ _)
theorem add_left_comm (a b c : K) : a + (b + c) = b + (a + c) := by rw [← add_assoc, add_comm a b, add_assoc]
theorem add_zero (a : K) : a + 0 = a := ext UInt8.xor_zero
theorem zero_add (a : K) : 0 + a = a := by rw [add_comm, add_zero]
theorem add_self (a : K) : a + a = 0 := ext UInt8.xor_self
theorem add_add_self (a b : K) : a + (a + b) = b := by rw [← add_assoc, add_self, zero_add]
theorem eq_of_add {a b : K} (h : a + b = 0) : a = b := ext (xor_zero_eq (congrArg K.v h))
instance : Std.Associative (α := K) (· + ·) := ⟨add_assoc⟩
instance : Std.Commutative (α := K) (· + ·) := ⟨add_comm⟩
/-- The product, by steps. -/
theorem mul_step (a b : K) : a * b = if a = 0 then 0 else ⟨stepN (glog a.v).toNat b.v⟩ := by
  by_cases ha : a = 0
  · subst ha
    rw [if_pos rfl]
    apply ext; rw [mul_v, gmul, if_pos (by simp [zero_v])]; rfl
  · have ha' : a.v ≠ 0 := fun h => ha (ext h)
    rw [if_neg ha]
    apply ext
    rw [mul_v, gmul]
    obtain ⟨h1, h2, h3⟩ := log_pow a.v ha'
    by_cases hb : b.v = 0
    · rw [if_pos (by simp [hb])]; simp only [hb, stepN_zero]
    · rw [if_neg (by simp; exact ⟨fun h => ha' h.symm, fun h => hb h.symm⟩)]
      obtain ⟨k1, k2, k3⟩ := log_pow b.v hb
      have : gsum [a.v, b.v] = (((glog a.v).toNat + (glog b.v).toNat : Nat) : Int) := by simp [gsum]; omega
      rw [this, gexp_nat]
      show _ = stepN _ _
      rw [← stepN_pow, k1]
theorem mul_comm (a b : K) : a * b = b * a := by
  apply ext
  rw [mul_v, mul_v, gmul, gmul]
  have h : (0 ∈ [a.v, b.v]) ↔ (0 ∈ [b.v, a.v]) := by simp; exact Or.comm
  by_cases h0 : 0 ∈ [a.v, b.v]
  · rw [if_pos h0, if_pos (h.1 h0)]
  · rw [if_neg h0, if_neg (fun k => h0 (h.2 k))]
    congr 1
    simp [gsum]; omega
theorem zero_mul (a : K) : 0 * a = 0 := by rw [mul_step, if_pos rfl]
theorem mul_zero (a : K) : a * 0 = 0 := by rw [mul_comm, zero_mul]
theorem mul_add (a b c : K) : a * (b + c) = a * b + a * c := by
  rw [mul_step, mul_step, mul_step]
  by_cases ha : a = 0
  · simp only [if_pos ha]; rfl
  · simp only [if_neg ha]
    exact ext (stepN_xor _ _ _)
theorem add_mul (a b c : K) : (a + b) * c = a * c + b * c := by rw [mul_comm, mul_add, mul_comm c a, mul_comm c b]
theorem mul_ne {a b : K} (ha : a ≠ 0) (hb : b ≠ 0) : a * b ≠ 0 := by
  rw [mul_step, if_neg ha]
  intro h
  have h1 : stepN (glog a.v).toNat b.v = stepN (glog a.v).toNat 0 := by rw [stepN_zero]; exact congrArg K.v h
  exact hb (ext (stepN_inj _ h1))
theorem mul_eq_zero {a b : K} (h : a * b = 0) : a = 0 ∨ b = 0 := by
  by_cases ha : a = 0
  · exact .inl ha
  · by_cases hb : b = 0
    · exact .inr hb
    · exact absurd h (mul_ne ha hb)
/-- A power of x. -/
def X (n : Int) : K := ⟨gexp n⟩
theorem X_ne (n : Int) : X n ≠ 0 := fun h => gexp_nz n (congrArg K.v h)
theorem X_mul (m n : Int) : X m * X n = X (m + n) := by
  apply ext
  rw [mul_v, gmul]
  rw [if_neg (by simp; exact ⟨fun h => gexp_nz m h.symm, fun h => gexp_nz n h.symm⟩)]
  have : gsum [(X m).v, (X n).v] = m % 255 + n % 255 := by
    simp only [gsum, X, List.map_cons, List.map_nil, List.sum_cons, List.sum_nil, log_exp]; omega
  rw [this]
  show gexp _ = gexp _
  rw [← gexp_mod, ← gexp_mod (m + n)]; congr 1; omega
theorem X_zero : X 0 = 1 := by decide
theorem X_inj {m n : Int} (hm : 0 ≤ m ∧ m < 255) (hn : 0 ≤ n ∧ n < 255) (h : X m = X n) : m = n := by
  have := congrArg (fun k : K => glog k.v) h
  simp only [X, log_exp] at this; omega
theorem of_log {a : K} (h : a ≠ 0) : a = X (glog a.v) := ext (exp_log a.v (fun h' => h (ext h'))).symm
theorem mul_assoc (a b c : K) : a * b * c = a * (b * c) := by
  by_cases ha : a = 0
  · subst ha; rw [zero_mul, zero_mul, zero_mul]
  · by_cases hb : b = 0
    · subst hb; rw [mul_zero, zero_mul, mul_zero]
    · by_cases hc : c = 0
      · subst hc; rw [mul_zero, mul_zero, mul_zero]
      · rw [of_log ha, of_log hb, of_log hc, X_mul, X_mul, X_mul, X_mul]; congr 1; omega
theorem mul_left_comm (a b c : K) : a * (b * c) = b * (a * c) := by rw [← mul_assoc, mul_comm a b, mul_assoc]
instance : Std.Associative (α := K) (· * ·) := ⟨mul_assoc⟩
instance : Std.Commutative (α := K) (· * ·) := ⟨mul_comm⟩
theorem one_mul (a : K) : 1 * a = a := by
  by_cases ha : a = 0
  · subst ha; rw [mul_zero]
  · rw [of_log ha, ← X_zero, X_mul]; congr 1; omega
theorem mul_one (a : K) : a * 1 = a := by rw [mul_comm, one_mul]
theorem one_ne : (1 : K) ≠ 0 := by decide
def inv (a : K) : K := ⟨ginv a.v⟩
theorem inv_eq (a : K) : inv a = X (-glog a.v) := rfl
theorem inv_ne (a : K) : inv a ≠ 0 := X_ne _
theorem mul_inv {a : K} (h : a ≠ 0) : a * inv a = 1 := by
  conv => lhs; lhs; rw [of_log h]
  rw [inv_eq, X_mul, ← X_zero]; congr 1; omega
theorem inv_mul {a : K} (h : a ≠ 0) : inv a * a = 1 := by rw [mul_comm, mul_inv h]
theorem mul_cancel {a b c : K} (h : a ≠ 0) (e : a * b = a * c) : b = c := by
  have := congrArg (inv a * ·) e
  simpa [← mul_assoc, inv_mul h, one_mul] using this
theorem inv_X (n : Int) : inv (X n) = X (-n) := by
  rw [inv_eq]; show X (-glog (gexp n)) = _
  rw [log_exp]
  apply ext; show gexp _ = gexp _
  rw [← gexp_mod, ← gexp_mod (-n)]; congr 1; omega
theorem inv_inv {a : K} (h : a ≠ 0) : inv (inv a) = a := by
  conv => rhs; rw [of_log h]
  rw [inv_eq a, inv_X]; congr 1; omega
def pow (a : K) : Nat → K
  | 0 => 1
  | n + 1 => pow a n * a
theorem X_pow (n : Int) (k : Nat) : pow (X n) k = X (n * k) := by
  induction k with
  | zero => rw [pow, ← X_zero]; congr 1; omega
  | succ k ih => rw [pow, ih, X_mul]; congr 1; rw [Int.natCast_succ, Int.mul_add]; omega
theorem pow_mul (a b : K) (n : Nat) : pow (a * b) n = pow a n * pow b n := by
  induction n with
  | zero => rw [pow, pow, pow, one_mul]
  | succ n ih => rw [pow, pow, pow, ih]; ac_rfl
theorem pow_one (n : Nat) : pow 1 n = 1 := by
  induction n with
  | zero => rfl
  | succ n ih => rw [pow, ih, one_mul]
theorem pow_add (a : K) (m n : Nat) : pow a (m + n) = pow a m * pow a n := by
  induction n with
  | zero => rw [pow, mul_one]; rfl
  | succ n ih => rw [← Nat.add_assoc, pow, ih, pow, mul_assoc]
end K
end Go.Proofs.Ytdcjionaedcfoaa.Gf
