import Derived.Test.YtndofhcacmghkaaHg
namespace Go.Proofs.Ytndofhcacmghkaa
set_option linter.unusedVariables false
set_option linter.unusedSimpArgs false
open Go.RowKit GF
open Go.Proofs.YtndofhcacmghkaaW.PrintWords

theorem i64_xor (a b : Nat) (ha : a < 2 ^ 9) (hb : b < 2 ^ 9) : Go.bits .xor .i64 (a : Int) (b : Int) = ((a ^^^ b : Nat) : Int) :=
  bits_xor_nat .i64 9 (by decide) (fun n h0 h1 => by rw [IntKind.wrap_i64]; omega) a b ha hb
theorem xd_alt {a : Nat} (h : a < 256) : (if 255 < 2 * a then (2 * a) ^^^ 285 else 2 * a) = xd a := by
  have : ∀ a, a < 256 → (if 255 < 2 * a then (2 * a) ^^^ 285 else 2 * a) = xd a := by decide +kernel
  exact this a h
theorem xd_hi {a : Nat} (h : a < 256) (h1 : 255 < 2 * a) : (2 * a) ^^^ 285 = xd a := by rw [← xd_alt h, if_pos h1]
theorem xd_lo {a : Nat} (h : a < 256) (h1 : ¬ 255 < 2 * a) : 2 * a = xd a := by rw [← xd_alt h, if_neg h1]

/-- the reference's product is the code's -/
theorem rmul_nat (a b : Nat) (ha : a < 256) (hb : b < 256) (w : World) :
    Calls Try.prog 17 #[.int .u8 a, .int .u8 b] w fun e w' => e = .returned (.int .u8 ((gm a b : Nat) : Int)) ∧ w = w' := by
  go_enter Try.func17, Try.ntmps17
  go_wp2
  go_loop [5, 6, 7] (fun x y o => ∃ (n a' b' o' : Nat), x = .int .i64 a' ∧ y = .int .i64 b' ∧ o = .int .i64 o' ∧ a' < 256 ∧ b' < 256 ∧ o' < 256 ∧ Hid (b' < 2 ^ n) ∧ Hid (o' ^^^ lin n a' b' = gm a b)) (fun _ y _ => (intOf y).toNat)
  case atStart => exact ⟨8, a, b, 0, rfl, rfl, rfl, ha, hb, by omega, Lib.hid hb, Lib.hid (by rw [Nat.zero_xor]; rfl)⟩
  case round =>
    obtain ⟨n, a', b', o', rfl, rfl, rfl, h1, h2, h3, H4, H5⟩ := hrel
    by_cases hz : 0 < b'
    · obtain ⟨m, HN⟩ : ∃ m, Hid (n = m + 1) := by
        cases n with
        | zero => have := H4.out; simp at this; omega
        | succ m => exact ⟨m, Lib.hid rfl⟩
      have Hb : Hid (b' / 2 < 2 ^ m) := Lib.hid (by have := H4.out; rw [HN.out, Nat.pow_succ] at this; omega)
      have Hx := Lib.hid (xd_lt h1)
      have Hxo := Lib.hid (xor_lt h3 h1)
      by_cases ho : b' % 2 = 1
      · have ho' : (((b' : Int) % 2) == 1) = true := by simp; omega
        have H6 : Hid ((o' ^^^ a') ^^^ lin m (xd a') (b' / 2) = gm a b) := Lib.hid (by rw [← H5.out, HN.out, lin, if_pos ho, Nat.xor_assoc])
        have e1 := i64_xor o' a' (by omega) (by omega)
        clear ho
        by_cases hx : 255 < 2 * a'
        · have H7 := Lib.hid (xd_hi h1 hx)
          have e2 := i64_xor (2 * a') 285 (by omega) (by omega)
          simp only [Int.natCast_mul, Int.cast_ofNat_Int] at e2
          go_wp2
          go_round
          case rel => exact ⟨m, xd a', b' / 2, o' ^^^ a', by rw [← H7.out] <;> rfl, by simp, rfl, Hx.out, by omega, Hxo.out, Hb, H6⟩
          case measure => simp [intOf]; omega
        · have H7 := Lib.hid (xd_lo h1 hx)
          go_wp2
          go_round
          case rel => exact ⟨m, xd a', b' / 2, o' ^^^ a', by rw [← H7.out] <;> simp, by simp, rfl, Hx.out, by omega, Hxo.out, Hb, H6⟩
          case measure => simp [intOf]; omega
      · have ho' : (((b' : Int) % 2) == 1) = false := by simp; omega
        have H6 : Hid (o' ^^^ lin m (xd a') (b' / 2) = gm a b) := Lib.hid (by rw [← H5.out, HN.out, lin, if_neg ho, Nat.zero_xor])
        clear ho
        by_cases hx : 255 < 2 * a'
        · have H7 := Lib.hid (xd_hi h1 hx)
          have e2 := i64_xor (2 * a') 285 (by omega) (by omega)
          simp only [Int.natCast_mul, Int.cast_ofNat_Int] at e2
          go_wp2
          go_round
          case rel => exact ⟨m, xd a', b' / 2, o', by rw [← H7.out] <;> rfl, by simp, rfl, Hx.out, by omega, h3, Hb, H6⟩
          case measure => simp [intOf]; omega
        · have H7 := Lib.hid (xd_lo h1 hx)
          go_wp2
          go_round
          case rel => exact ⟨m, xd a', b' / 2, o', by rw [← H7.out] <;> simp, by simp, rfl, Hx.out, by omega, h3, Hb, H6⟩
          case measure => simp [intOf]; omega
    · obtain rfl : b' = 0 := by omega
      have HE : Hid (o' = gm a b) := Lib.hid (by rw [← H5.out, lin_zero, Nat.xor_zero])
      go_wp2
      go_ret
      refine ⟨?_, rfl⟩
      rw [← HE.out]
      rfl
end Go.Proofs.Ytndofhcacmghkaa
