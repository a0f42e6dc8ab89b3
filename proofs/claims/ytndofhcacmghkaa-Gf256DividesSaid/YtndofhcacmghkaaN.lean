import Derived.Test.YtndofhcacmghkaaM
import Derived.Test.YtndofhcacmghkaaHf
/-! What the walks compute is the field's arithmetic. -/
namespace Go.Proofs.Ytndofhcacmghkaa
set_option linter.unusedVariables false
set_option linter.unusedSimpArgs false
open Go.RowKit GF
open Go.Proofs.YtndofhcacmghkaaW.PrintWords

theorem xor_nat (a b : Nat) (ha : a < 256) (hb : b < 256) : Go.bits .xor .u8 (a : Int) (b : Int) = ((a ^^^ b : Nat) : Int) := u8_xor_nat a b ha hb
theorem dbl_nat (a : Nat) (h : a < 256) : dbl (a : Int) = (xd a : Nat) := by
  unfold dbl xd
  by_cases h1 : 128 ≤ a
  · rw [if_pos (by omega), if_pos h1]
    have e : ((a : Int) * 2) % 256 = ((a * 2 % 256 : Nat) : Int) := by omega
    rw [e]
    exact xor_nat _ 29 (by omega) (by omega)
  · rw [if_neg (by omega), if_neg h1]; omega
theorem pw_nat (k : Nat) : pw k = (pwN k : Nat) := by
  induction k with
  | zero => rfl
  | succ k ih => rw [pw, ih, dbl_nat _ (pwN_lt k)]; rfl
theorem mulL_nat (n : Nat) : ∀ (a b o : Nat), a < 256 → b < 2 ^ n → b < 256 → o < 256 → mulL n (a : Int) (b : Int) (o : Int) = ((o ^^^ lin n a b : Nat) : Int) := by
  induction n with
  | zero => intro a b o _ _ _ _; simp [mulL, lin]
  | succ n ih =>
    intro a b o ha hb hb8 ho
    rw [mulL]
    by_cases h0 : b = 0
    · subst h0; simp [lin_zero]
    · rw [if_neg (by omega)]
      have e1 : Go.bits .and .u8 (b : Int) 1 = ((b % 2 : Nat) : Int) := by
        have := u8_and_nat b 1 hb8 (by omega)
        rw [nat_mask1] at this
        exact this
      have e2 : (b : Int) / 2 = ((b / 2 : Nat) : Int) := by omega
      rw [e1, e2, dbl_nat a ha, lin]
      have hb2 : b / 2 < 2 ^ n := by rw [Nat.pow_succ] at hb; omega
      by_cases h1 : b % 2 = 1
      · rw [if_pos (by omega), if_pos h1, xor_nat _ _ ho ha, ih _ _ _ (xd_lt ha) hb2 (by omega) (xor_lt ho ha), Nat.xor_assoc]
      · rw [if_neg (by omega), if_neg h1, ih _ _ _ (xd_lt ha) hb2 (by omega) ho, Nat.zero_xor]
theorem mulS_nat (a b : Nat) (ha : a < 256) (hb : b < 256) : mulS (a : Int) (b : Int) = (gm a b : Nat) := by
  unfold mulS
  have := mulL_nat 8 a b 0 ha hb hb (by omega)
  rw [Nat.zero_xor] at this
  exact this

theorem logFrom_some {a : Int} : ∀ (n i k : Nat), logFrom a n i = some k → pw k = a ∧ i ≤ k ∧ k < i + n := by
  intro n
  induction n with
  | zero => intro i k h; simp [logFrom] at h
  | succ n ih =>
    intro i k h
    unfold logFrom at h
    split at h
    · injection h with h; subst h; exact ⟨‹_›, by omega, by omega⟩
    · have := ih (i + 1) k h; exact ⟨this.1, by omega, by omega⟩
theorem logFrom_none {a : Int} : ∀ (n i : Nat), logFrom a n i = none → ∀ k, i ≤ k → k < i + n → pw k ≠ a := by
  intro n
  induction n with
  | zero => intro i _ k h1 h2; omega
  | succ n ih =>
    intro i h k h1 h2
    unfold logFrom at h
    split at h
    · cases h
    · rename_i hne
      by_cases hk : k = i
      · subst hk; exact hne
      · exact ih (i + 1) h k (by omega) (by omega)
theorem logR_zero : logR 0 = (0, 1) := by
  apply logR_miss
  cases h : logFrom 0 255 0 with
  | none => rfl
  | some k =>
    have := (logFrom_some _ _ _ h).1
    rw [pw_nat] at this
    exact absurd (by exact_mod_cast this) (pwN_pos k)
theorem logR_pos {a : Nat} (ha : a < 256) (h0 : a ≠ 0) : ∃ k, k < 255 ∧ pwN k = a ∧ logR (a : Int) = ((k : Int), 0) := by
  cases h : logFrom (a : Int) 255 0 with
  | none =>
    obtain ⟨k, hk, he⟩ := lgN_all a ha h0
    exact absurd (by rw [pw_nat, he]) (logFrom_none _ _ h k (by omega) (by omega))
  | some k =>
    have h1 := logFrom_some _ _ _ h
    rw [pw_nat] at h1
    exact ⟨k, by omega, by exact_mod_cast h1.1, logR_hit h⟩
theorem expI_emod (n : Int) : expI n = n % 255 := by
  unfold expI
  rw [Int.tmod_eq_emod]
  have := Int.emod_nonneg n (show (255 : Int) ≠ 0 by omega)
  have := Int.emod_lt_of_pos n (show (0 : Int) < 255 by omega)
  split <;> split <;> simp <;> omega
theorem expS_nat (k : Nat) : expS (k : Int) = (pwN k : Nat) := by
  unfold expS
  rw [expI_emod, pw_nat, show ((k : Int) % 255).toNat = k % 255 by omega, pwN_mod]
theorem expS_mod {m n : Int} (h : m % 255 = n % 255) : expS m = expS n := by
  unfold expS; rw [expI_emod, expI_emod, h]
/-- an exponent, brought above zero -/
def upE (n : Int) : Nat := (n % 255).toNat
theorem expS_up (n : Int) : expS n = (pwN (upE n) : Nat) := by
  rw [← expS_nat]; apply expS_mod; unfold upE; omega
theorem invR_zero : invR 0 = (0, 1) := by unfold invR; rw [logR_zero]; rfl
theorem invR_pos {a : Nat} (ha : a < 256) (h0 : a ≠ 0) : ∃ b, b < 256 ∧ gm a b = 1 ∧ invR (a : Int) = ((b : Int), 0) := by
  obtain ⟨k, hk, he, hl⟩ := logR_pos ha h0
  refine ⟨pwN (255 - k), pwN_lt _, ?_, ?_⟩
  · rw [← he, ← pwN_add, show k + (255 - k) = 255 by omega, pwN_255]
  · unfold invR
    rw [hl]
    simp only [if_pos]
    rw [← expS_nat]
    rw [expS_mod (m := -(k : Int)) (n := ((255 - k : Nat) : Int)) (by omega)]

/-- a byte, as a natural number -/
theorem byte_nat {a : Int} (h0 : 0 ≤ a) (h : a ≤ 255) : ∃ n : Nat, a = n ∧ n < 256 := ⟨a.toNat, by omega, by omega⟩
end Go.Proofs.Ytndofhcacmghkaa
