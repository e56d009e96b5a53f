/- Bits of bytes and words, plainly. -/
import Derived.Test.YtdcjionaedcfoaaL
import Derived.Laws.BitsLemmas
set_option linter.unusedVariables false
namespace Go.Proofs.Ytdcjionaedcfoaa.L
theorem bits_xor_nat (k : IntKind) (j : Nat) (hj : j ≤ k.bits) (hk : ∀ n : Int, 0 ≤ n → n < 2 ^ j → k.wrap n = n) (a b : Nat) (ha : a < 2 ^ j) (hb : b < 2 ^ j) :
    bits .xor k a b = ((a ^^^ b : Nat) : Int) := by
  have hp : 2 ^ j ≤ 2 ^ k.bits := Nat.pow_le_pow_right (by decide) hj
  have ha' : a % 2 ^ k.bits = a := Nat.mod_eq_of_lt (Nat.lt_of_lt_of_le ha hp)
  have hb' : b % 2 ^ k.bits = b := Nat.mod_eq_of_lt (Nat.lt_of_lt_of_le hb hp)
  have cast : ∀ n : Nat, n < 2 ^ j → ((n : Nat) : Int) < 2 ^ j := fun n h => by exact_mod_cast h
  simp only [bits, BitVec.ofInt_natCast, BitVec.toNat_xor, BitVec.toNat_ofNat, ha', hb']
  exact hk _ (Int.natCast_nonneg _) (cast _ (Nat.xor_lt_two_pow ha hb))
theorem b8_and (a b : UInt8) : bits .and .u8 (a.toNat : Int) (b.toNat : Int) = ((a &&& b).toNat : Int) := by
  rw [(bits_nat .u8 8 (by decide) wraps_u8 a.toNat b.toNat a.toNat_lt b.toNat_lt).1, UInt8.toNat_and]
theorem b8_or (a b : UInt8) : bits .or .u8 (a.toNat : Int) (b.toNat : Int) = ((a ||| b).toNat : Int) := by
  rw [(bits_nat .u8 8 (by decide) wraps_u8 a.toNat b.toNat a.toNat_lt b.toNat_lt).2, UInt8.toNat_or]
theorem b8_xor (a b : UInt8) : bits .xor .u8 (a.toNat : Int) (b.toNat : Int) = ((a ^^^ b).toNat : Int) := by
  rw [bits_xor_nat .u8 8 (by decide) wraps_u8 a.toNat b.toNat a.toNat_lt b.toNat_lt, UInt8.toNat_xor]
theorem wraps_u32 (n : Int) (h₀ : 0 ≤ n) (h₁ : n < 2 ^ 32) : IntKind.u32.wrap n = n := by rw [IntKind.wrap_u32]; omega
theorem b32_and (a b : UInt32) : bits .and .u32 (a.toNat : Int) (b.toNat : Int) = ((a &&& b).toNat : Int) := by
  rw [(bits_nat .u32 32 (by decide) wraps_u32 a.toNat b.toNat a.toNat_lt b.toNat_lt).1, UInt32.toNat_and]
theorem b32_xor (a b : UInt32) : bits .xor .u32 (a.toNat : Int) (b.toNat : Int) = ((a ^^^ b).toNat : Int) := by
  rw [bits_xor_nat .u32 32 (by decide) wraps_u32 a.toNat b.toNat a.toNat_lt b.toNat_lt, UInt32.toNat_xor]
theorem u8_shl1 (a : UInt8) : ((a <<< 1).toNat : Int) = (a.toNat : Int) * 2 % 256 := by
  have : (a <<< 1).toNat = a.toNat * 2 % 256 := by rw [UInt8.toNat_shiftLeft]; simp [Nat.shiftLeft_eq]
  rw [this]; omega
theorem u8_all (P : UInt8 → Prop) (h : ∀ n : Fin 256, P (UInt8.ofFin n)) (a : UInt8) : P a := by
  have := h a.toFin
  simpa using this
theorem u8_ne0 {a : UInt8} (h : a ≠ 0) : ((a.toNat : Int) == 0) = false := by
  have : a.toNat ≠ 0 := fun h' => h (UInt8.toNat_inj.1 (by simpa using h'))
  simp; omega
end Go.Proofs.Ytdcjionaedcfoaa.L
