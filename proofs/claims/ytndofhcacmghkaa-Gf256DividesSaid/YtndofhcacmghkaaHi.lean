import Derived.Test.YtndofhcacmghkaaHh
namespace Go.Proofs.Ytndofhcacmghkaa
set_option linter.unusedVariables false
set_option linter.unusedSimpArgs false
open Go.RowKit GF
open Go.Proofs.YtndofhcacmghkaaW.PrintWords

def gpow (a : Nat) : Nat → Nat
  | 0 => 1
  | n + 1 => gm (gpow a n) a
theorem gpow_lt {a : Nat} (ha : a < 256) (n : Nat) : gpow a n < 256 := by
  induction n with
  | zero => show 1 < 256; decide
  | succ n ih => exact gm_lt ih
theorem gpow_add {a : Nat} (ha : a < 256) (m n : Nat) : gpow a (m + n) = gm (gpow a m) (gpow a n) := by
  induction n with
  | zero => rw [Nat.add_zero, gpow, gm_one (gpow_lt ha m)]
  | succ n ih => rw [← Nat.add_assoc, gpow, gpow, ih, gm_assoc (gpow_lt ha m) (gpow_lt ha n) ha]
theorem gpow_one {a : Nat} (ha : a < 256) : gpow a 1 = a := by rw [gpow, gpow, one_gm ha]
theorem gpow_sq {a : Nat} (ha : a < 256) (m : Nat) : gpow (gm a a) m = gpow a (2 * m) := by
  induction m with
  | zero => rfl
  | succ m ih =>
    rw [gpow, ih, show 2 * (m + 1) = 2 * m + 1 + 1 by omega, gpow, gpow, gm_assoc (gpow_lt ha _) ha ha]
theorem gpow_pw (k n : Nat) : gpow (pwN k) n = pwN (k * n) := by
  induction n with
  | zero => rfl
  | succ n ih => rw [gpow, ih, ← pwN_add]; congr 1

theorem rpow_nat (a n : Nat) (ha : a < 256) (hn : n < 256) (w : World) :
    Calls Try.prog 29 #[.int .u8 a, .int .i64 n] w fun e w' => e = .returned (.int .u8 ((gpow a n : Nat) : Int)) ∧ w = w' := by
  go_enter Try.func29, Try.ntmps29
  go_wp2
  go_loop [0, 1, 5] (fun x y o => ∃ (a' n' o' : Nat), x = .int .u8 a' ∧ y = .int .i64 n' ∧ o = .int .u8 o' ∧ a' < 256 ∧ n' < 256 ∧ o' < 256 ∧ Hid (gm o' (gpow a' n') = gpow a n)) (fun _ y _ => (intOf y).toNat)
  case atStart => exact ⟨a, n, 1, rfl, rfl, rfl, ha, hn, by omega, Lib.hid (one_gm (gpow_lt ha n))⟩
  case round =>
    obtain ⟨a', n', o', rfl, rfl, rfl, h1, h2, h3, H⟩ := hrel
    by_cases hz : 0 < n'
    · have Hs := Lib.hid (gm_lt (b := a') h1)
      by_cases ho : n' % 2 = 1
      · have ho' : (((n' : Int) % 2) == 1) = true := by simp; omega
        have H6 : Hid (gm (gm o' a') (gpow (gm a' a') (n' / 2)) = gpow a n) := Lib.hid (by
          rw [← H.out, gpow_sq h1, ← gm_assoc h3 h1 (gpow_lt h1 _), show n' = 1 + 2 * (n' / 2) by omega, gpow_add h1, gpow_one h1, show (1 + 2 * (n' / 2)) / 2 = n' / 2 by omega])
        have Ho := Lib.hid (gm_lt (b := a') h3)
        clear ho
        go_wp2_with fail
        refine (rmul_nat o' a' h3 h1 _).mono ?_
        rintro e w' ⟨rfl, rfl⟩
        go_wp2_with fail
        refine (rmul_nat a' a' h1 h1 _).mono ?_
        rintro e w' ⟨rfl, rfl⟩
        go_wp2
        go_round
        case rel => exact ⟨gm a' a', n' / 2, gm o' a', rfl, by simp, rfl, Hs.out, by omega, Ho.out, H6⟩
        case measure => simp [intOf]; omega
      · have ho' : (((n' : Int) % 2) == 1) = false := by simp; omega
        have H6 : Hid (gm o' (gpow (gm a' a') (n' / 2)) = gpow a n) := Lib.hid (by
          rw [← H.out, gpow_sq h1]; congr 2; omega)
        clear ho
        go_wp2_with fail
        refine (rmul_nat a' a' h1 h1 _).mono ?_
        rintro e w' ⟨rfl, rfl⟩
        go_wp2
        go_round
        case rel => exact ⟨gm a' a', n' / 2, o', rfl, by simp, rfl, Hs.out, by omega, h3, H6⟩
        case measure => simp [intOf]; omega
    · obtain rfl : n' = 0 := by omega
      have HE : Hid (o' = gpow a n) := Lib.hid (by rw [← H.out, gpow, gm_one h3])
      go_wp2
      go_ret
      refine ⟨?_, rfl⟩
      rw [← HE.out]
      rfl

theorem rpow_any (a n : Int) (a' n' : Nat) (h1 : a = a') (h2 : n = n') (ha : a' < 256) (hn : n' < 256) (w : World) :
    Calls Try.prog 29 #[.int .u8 a, .int .i64 n] w fun e w' => e = .returned (.int .u8 ((gpow a' n' : Nat) : Int)) ∧ w = w' := by
  subst h1 h2; exact rpow_nat a' n' ha hn w
theorem rmul_any (a b : Int) (a' b' : Nat) (h1 : a = a') (h2 : b = b') (ha : a' < 256) (hb : b' < 256) (w : World) :
    Calls Try.prog 17 #[.int .u8 a, .int .u8 b] w fun e w' => e = .returned (.int .u8 ((gm a' b' : Nat) : Int)) ∧ w = w' := by
  subst h1 h2; exact rmul_nat a' b' ha hb w

theorem rinv_any (a : Int) (ha : 0 ≤ a ∧ a ≤ 255) (w : World) :
    Calls Try.prog 12 #[.int .u8 a] w fun e w' => e = .returned (.tuple #[.int .u8 (invR a).1, .int .i64 (invR a).2]) ∧ w = w' := by
  obtain ⟨n, rfl, hn⟩ := byte_nat ha.1 ha.2
  by_cases h0 : n = 0
  · have e0 : ((n : Int) == 0) = true := by simp [h0]
    have HI : Hid (invR n = (0, 1)) := Lib.hid (by rw [h0]; exact invR_zero)
    clear h0
    go_enter Try.func12, Try.ntmps12
    go_wp2
    go_ret2
    exact ⟨by rw [HI.out]; rfl, rfl⟩
  · have e0 : ((n : Int) == 0) = false := by simp; omega
    have HI : Hid (invR n = (((gpow n 254 : Nat) : Int), 0)) := Lib.hid (by
      obtain ⟨b, hb, h1, h2⟩ := invR_pos hn h0
      rw [h2]
      congr 2
      obtain ⟨k, hk, rfl⟩ := lgN_all n hn h0
      rw [gpow_pw]
      have h3 : gm (pwN k) (pwN (k * 254)) = 1 := by
        rw [← pwN_add, show k + k * 254 = 0 + 255 * k by omega, pwN_period]; rfl
      have h4 : gm (gm b (pwN k)) (pwN (k * 254)) = gm b 1 := by rw [← gm_assoc hb (pwN_lt _) (pwN_lt _), h3]
      rw [gm_comm hb (pwN_lt _), h1, one_gm (pwN_lt _), gm_one hb] at h4
      exact h4.symm)
    clear h0
    go_enter Try.func12, Try.ntmps12
    go_wp2_with (go_at_call 29; refine (rpow_any _ _ n 254 rfl rfl hn (by omega) _).mono ?_; rintro e w' ⟨rfl, rfl⟩)
    go_ret2
    exact ⟨by rw [HI.out]; rfl, rfl⟩

theorem rexp_any (n : Int) (w : World) :
    Calls Try.prog 19 #[.int .i64 n] w fun e w' => e = .returned (.int .u8 (expS n)) ∧ w = w' := by
  have hr := expI_range n
  obtain ⟨m, HM⟩ : ∃ m : Nat, Hid (expI n = m) := ⟨(expI n).toNat, Lib.hid (by omega)⟩
  have hm : m < 255 := by have := HM.out; omega
  have HE : Hid (expS n = ((gpow 2 m : Nat) : Int)) := Lib.hid (by
    unfold expS
    rw [HM.out, pw_nat]
    have := gpow_pw 1 m
    rw [Nat.one_mul, show pwN 1 = 2 by decide] at this
    rw [this]; rfl)
  have hb1 : -255 < n.tmod 255 := by
    have := Int.tmod_lt_of_pos (-n) (show (0:Int) < 255 by omega)
    rw [Int.neg_tmod] at this; omega
  have hb2 : n.tmod 255 < 255 := Int.tmod_lt_of_pos n (by omega)
  have HV : Hid (n.tmod 255 % 255 = m) := Lib.hid (by
    have := HM.out; unfold expI at this; split at this <;> omega)
  clear hr
  go_enter Try.func19, Try.ntmps19
  go_wp2_with fail
  refine (rpow_any _ _ 2 m rfl HV.out (by omega) (by omega) _).mono ?_
  rintro e w' ⟨rfl, rfl⟩
  go_wp2
  go_ret
  exact ⟨by rw [HE.out]; rfl, rfl⟩

set_option maxRecDepth 100000 in
theorem rlog_any (a : Int) (w : World) :
    Calls Try.prog 14 #[.int .u8 a] w fun e w' => e = .returned (.tuple #[.int .i64 (logR a).1, .int .i64 (logR a).2]) ∧ w = w' := by
  go_enter Try.func14, Try.ntmps14
  go_wp2
  go_loop [4, 5] (fun x i => ∃ k : Nat, k ≤ 255 ∧ i = .int .i64 k ∧ x = .int .u8 ((pwN k : Nat) : Int) ∧ Hid (logFrom a 255 0 = logFrom a (255 - k) k)) (fun _ i => 255 - (intOf i).toNat)
  case atStart => exact ⟨0, by omega, rfl, rfl, Lib.hid rfl⟩
  case round =>
    obtain ⟨k, hk, rfl, rfl, HL⟩ := hrel
    by_cases hlt : k < 255
    · by_cases he : pw k = a
      · have he' : (((pwN k : Nat) : Int) == a) = true := by rw [← pw_nat]; simpa using he
        have HE := Lib.hid he
        clear he
        go_wp2
        go_ret2
        exact ⟨by rw [logR_hit (HL.out.trans (logFrom_hit hlt HE.out))]; rfl, rfl⟩
      · have he' : (((pwN k : Nat) : Int) == a) = false := by rw [← pw_nat]; simpa using he
        have HE := Lib.hid he
        have Hx := Lib.hid (xd_gm (pwN_lt k))
        clear he
        go_wp2_with (go_at_call 17; refine (rmul_any _ _ (pwN k) 2 rfl rfl (pwN_lt k) (by omega) _).mono ?_; rintro e w' ⟨rfl, rfl⟩)
        go_round
        case rel => exact ⟨k + 1, by omega, by go_num, by rw [Hx.out]; rfl, Lib.hid (HL.out.trans (logFrom_miss hlt HE.out))⟩
        case measure => simp [intOf]; omega
    · obtain rfl : k = 255 := by omega
      go_wp2
      go_ret2
      exact ⟨by rw [logR_miss (HL.out.trans rfl)]; rfl, rfl⟩
end Go.Proofs.Ytndofhcacmghkaa
