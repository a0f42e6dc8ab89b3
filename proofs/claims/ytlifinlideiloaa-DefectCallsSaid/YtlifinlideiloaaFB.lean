import Derived.Test.YtlifinlideiloaaEC
/-! The reference's check, bit by bit, is the table's. -/
namespace Go.Proofs.Ytlifinlideiloaa
set_option linter.unusedVariables false
set_option linter.unusedSimpArgs false
open Go.RowKit
open Go.Proofs.YtlifinlideiloaaW.PrintWords

theorem bits_xor_u16_nat (a b : Nat) (ha : a < 65536) (hb : b < 65536) : Go.bits .xor .u16 (a : Int) (b : Int) = ((a ^^^ b : Nat) : Int) := by
  have hx : a ^^^ b < 2 ^ 16 := Nat.xor_lt_two_pow ha hb
  unfold Go.bits
  rw [IntKind.wrap_u16]
  have ea : (BitVec.ofInt IntKind.u16.bits (a : Int)).toNat = a := by
    show (BitVec.ofInt 16 (a : Int)).toNat = a
    simp; omega
  have eb : (BitVec.ofInt IntKind.u16.bits (b : Int)).toNat = b := by
    show (BitVec.ofInt 16 (b : Int)).toNat = b
    simp; omega
  simp only [BitVec.toNat_xor, ea, eb]
  omega
theorem bits_xor_u8_nat (a b : Nat) (ha : a < 256) (hb : b < 256) : Go.bits .xor .u8 (a : Int) (b : Int) = ((a ^^^ b : Nat) : Int) := by
  have hx : a ^^^ b < 2 ^ 8 := Nat.xor_lt_two_pow ha hb
  unfold Go.bits
  rw [IntKind.wrap_u8]
  have ea : (BitVec.ofInt IntKind.u8.bits (a : Int)).toNat = a := by
    show (BitVec.ofInt 8 (a : Int)).toNat = a
    simp; omega
  have eb : (BitVec.ofInt IntKind.u8.bits (b : Int)).toNat = b := by
    show (BitVec.ofInt 8 (b : Int)).toNat = b
    simp; omega
  simp only [BitVec.toNat_xor, ea, eb]
  omega

def stpN (n : Nat) : Nat := if n / 32768 = 1 then (n * 2 % 65536) ^^^ 4129 else n * 2 % 65536
def itN : Nat → Nat → Nat
  | 0, n => n
  | k + 1, n => stpN (itN k n)
theorem stpN_lt (n : Nat) : stpN n < 65536 := by
  unfold stpN
  split
  · exact Nat.xor_lt_two_pow (n := 16) (by omega) (by omega)
  · omega
theorem stpS_nat (n : Nat) : stpS (n : Int) = (stpN n : Int) := by
  unfold stpS stpN
  by_cases h : n / 32768 = 1
  · rw [if_pos h, if_pos (by omega)]
    have := bits_xor_u16_nat (n * 2 % 65536) 4129 (by omega) (by omega)
    rw [← this]
    simp
  · rw [if_neg h, if_neg (by omega)]
    simp
theorem itS_nat (k n : Nat) : itS k (n : Int) = (itN k n : Int) := by
  induction k with
  | zero => rfl
  | succ k ih => rw [itS, itN, ih, stpS_nat]
theorem itN_lt (k n : Nat) (h : n < 65536) : itN k n < 65536 := by
  cases k with
  | zero => exact h
  | succ k => exact stpN_lt _
theorem xor_div (a b k : Nat) : (a ^^^ b) / 2 ^ k = (a / 2 ^ k) ^^^ (b / 2 ^ k) := by
  rw [← Nat.shiftRight_eq_div_pow, ← Nat.shiftRight_eq_div_pow, ← Nat.shiftRight_eq_div_pow, Nat.shiftRight_xor_distrib]
theorem xor_mul (a b k : Nat) : (a ^^^ b) * 2 ^ k = (a * 2 ^ k) ^^^ (b * 2 ^ k) := by
  rw [← Nat.shiftLeft_eq, ← Nat.shiftLeft_eq, ← Nat.shiftLeft_eq, Nat.shiftLeft_xor_distrib]
theorem xor_mod (a b k : Nat) : (a ^^^ b) % 2 ^ k = (a % 2 ^ k) ^^^ (b % 2 ^ k) := Nat.xor_mod_two_pow
theorem stpN_xor (a b : Nat) (ha : a < 65536) (hb : b < 65536) : stpN (a ^^^ b) = stpN a ^^^ stpN b := by
  have h1 : (a ^^^ b) / 32768 = (a / 32768) ^^^ (b / 32768) := xor_div a b 15
  have h2 : (a ^^^ b) * 2 % 65536 = (a * 2 % 65536) ^^^ (b * 2 % 65536) := by
    rw [show (2 : Nat) = 2 ^ 1 from rfl, xor_mul, show (65536 : Nat) = 2 ^ 16 from rfl, xor_mod]
  unfold stpN
  rw [h1, h2]
  have a1 : a / 32768 = 0 ∨ a / 32768 = 1 := by omega
  have b1 : b / 32768 = 0 ∨ b / 32768 = 1 := by omega
  generalize a * 2 % 65536 = x
  generalize b * 2 % 65536 = y
  rcases a1 with a1 | a1 <;> rcases b1 with b1 | b1 <;> rw [a1, b1] <;> simp only [Nat.xor_self, Nat.zero_xor, Nat.xor_zero]
  · simp
  · simp [Nat.xor_assoc]
  · simp only [if_neg (show ¬ (0 = 1) by decide), if_pos trivial]
    rw [Nat.xor_assoc, Nat.xor_assoc, Nat.xor_comm y]
  · have : ∀ z : Nat, (x ^^^ z) ^^^ (y ^^^ z) = x ^^^ y := fun z => by
      rw [Nat.xor_comm y z, Nat.xor_assoc, ← Nat.xor_assoc z z, Nat.xor_self, Nat.zero_xor]
    simp [this]
theorem itN_xor (k a b : Nat) (ha : a < 65536) (hb : b < 65536) : itN k (a ^^^ b) = itN k a ^^^ itN k b := by
  induction k with
  | zero => rfl
  | succ k ih => rw [itN, itN, itN, ih, stpN_xor _ _ (itN_lt _ _ ha) (itN_lt _ _ hb)]
theorem itN_lo : ∀ n : Fin 256, itN 8 n.val = n.val * 256 := by decide +kernel
theorem split_xor (c b : Nat) : c ^^^ (b * 256) = (((c / 256) ^^^ b) * 256) ^^^ (c % 256) := by
  have h1 : (c / 256 * 256) ^^^ (c % 256) = c := by
    apply Nat.eq_of_testBit_eq
    intro i
    rw [show (256 : Nat) = 2 ^ 8 from rfl, Nat.testBit_xor, Nat.testBit_mul_two_pow, Nat.testBit_div_two_pow, Nat.testBit_mod_two_pow]
    by_cases h : 8 ≤ i
    · have e : i - 8 + 8 = i := by omega
      simp [h, e, show ¬ i < 8 by omega]
    · simp [h, show i < 8 by omega]
  conv => lhs; rw [← h1]
  rw [show (256 : Nat) = 2 ^ 8 from rfl, xor_mul, Nat.xor_assoc, Nat.xor_assoc, Nat.xor_comm (c % 2 ^ 8)]
/-- the reference's turn of one byte -/
theorem crc_turn (c b : Int) (c0 : 0 ≤ c) (c1 : c < 65536) (b0 : 0 ≤ b) (b1 : b < 256) : itS 8 (Go.bits .xor .u16 c (b * 256)) = crc1 c b := by
  obtain ⟨c, rfl⟩ := Int.eq_ofNat_of_zero_le c0
  obtain ⟨b, rfl⟩ := Int.eq_ofNat_of_zero_le b0
  have hc : c < 65536 := by omega
  have hb : b < 256 := by omega
  have e1 : ((b : Int) * 256) = ((b * 256 : Nat) : Int) := by simp
  have e2 : ((c : Int) / 256) = ((c / 256 : Nat) : Int) := by simp
  have e3 : ((c : Int) * 256 % 65536) = ((c * 256 % 65536 : Nat) : Int) := by simp
  have hl : c / 256 ^^^ b < 256 := Nat.xor_lt_two_pow (n := 8) (by omega) hb
  unfold crc1 crcT
  rw [e1, bits_xor_u16_nat _ _ hc (by omega), itS_nat, e2, bits_xor_u8_nat _ _ (by omega) hb, Int.toNat_natCast, e3]
  have e4 : (((c / 256 ^^^ b : Nat) : Int) * 256) = (((c / 256 ^^^ b) * 256 : Nat) : Int) := by simp
  rw [e4, itS_nat, bits_xor_u16_nat _ _ (by omega) (itN_lt _ _ (by omega)), split_xor, itN_xor _ _ _ (by omega) (by omega)]
  have := itN_lo ⟨c % 256, by omega⟩
  simp only at this
  rw [this, Nat.xor_comm]
  congr 2
  omega
end Go.Proofs.Ytlifinlideiloaa
