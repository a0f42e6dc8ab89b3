import Derived.Test.YtndofhcacmghkaaHb
namespace Go.Proofs.Ytndofhcacmghkaa
set_option linter.unusedVariables false
set_option linter.unusedSimpArgs false
open Go.RowKit
open Go.Proofs.YtndofhcacmghkaaW.PrintWords

/-- the exponent, as the code brings it into range -/
def expI (n : Int) : Int := if Int.tmod n 255 < 0 then Int.tmod n 255 + 255 else Int.tmod n 255
theorem expI_range (n : Int) : 0 ≤ expI n ∧ expI n < 255 := by
  unfold expI
  have h1 := Int.tmod_lt_of_pos n (show (0:Int) < 255 by omega)
  have h3 : -255 < Int.tmod n 255 := by
    have := Int.tmod_lt_of_pos (-n) (show (0:Int) < 255 by omega)
    rw [Int.neg_tmod] at this; omega
  split <;> omega
def expS (n : Int) : Int := pw (expI n).toNat

theorem exp_any (n : Int) (w : World) :
    Calls Try.prog 18 #[.int .i64 n] w fun e w' => e = .returned (.int .u8 (expS n)) ∧ w = w' := by
  have hr := expI_range n
  obtain ⟨m, HM⟩ : ∃ m : Nat, Hid (expI n = m) := ⟨(expI n).toNat, Lib.hid (by omega)⟩
  have hm : m < 255 := by have := HM.out; omega
  have HS : Hid (expS n = pw m) := Lib.hid (by unfold expS; rw [HM.out]; rfl)
  by_cases hneg : Int.tmod n 255 < 0
  · have e1 : n.tmod 255 + 255 ≤ m := by have := HM.out; unfold expI at this; rw [if_pos hneg] at this; omega
    have e2 : (m : Int) ≤ n.tmod 255 + 255 := by have := HM.out; unfold expI at this; rw [if_pos hneg] at this; omega
    go_enter Try.func18, Try.ntmps18
    go_wp2
    go_loop [3, 11] (fun a i => ∃ k : Nat, k ≤ m ∧ i = .int .i64 k ∧ a = .int .u8 (pw k)) (fun _ i => m - (intOf i).toNat)
    case atStart => exact ⟨0, by omega, rfl, rfl⟩
    case round =>
      obtain ⟨k, hk, rfl, rfl⟩ := hrel
      by_cases hlt : k < m
      · go_wp2_with (go_at_call 31; refine (double_any _ _).mono ?_; rintro e w' ⟨rfl, rfl⟩)
        go_round
        case rel => exact ⟨k + 1, by omega, by go_num, rfl⟩
        case measure => simp [intOf]; omega
      · obtain rfl : k = m := by omega
        go_wp2
        go_ret
        exact ⟨by rw [HS.out]; rfl, rfl⟩
  · have e1 : n.tmod 255 ≤ m := by have := HM.out; unfold expI at this; rw [if_neg hneg] at this; omega
    have e2 : (m : Int) ≤ n.tmod 255 := by have := HM.out; unfold expI at this; rw [if_neg hneg] at this; omega
    go_enter Try.func18, Try.ntmps18
    go_wp2
    go_loop [3, 11] (fun a i => ∃ k : Nat, k ≤ m ∧ i = .int .i64 k ∧ a = .int .u8 (pw k)) (fun _ i => m - (intOf i).toNat)
    case atStart => exact ⟨0, by omega, rfl, rfl⟩
    case round =>
      obtain ⟨k, hk, rfl, rfl⟩ := hrel
      by_cases hlt : k < m
      · go_wp2_with (go_at_call 31; refine (double_any _ _).mono ?_; rintro e w' ⟨rfl, rfl⟩)
        go_round
        case rel => exact ⟨k + 1, by omega, by go_num, rfl⟩
        case measure => simp [intOf]; omega
      · obtain rfl : k = m := by omega
        go_wp2
        go_ret
        exact ⟨by rw [HS.out]; rfl, rfl⟩

/-- Inv, as the code has it: the inverse and the error -/
def invR (a : Int) : Int × Int := if (logR a).2 = 0 then (expS (-(logR a).1), 0) else (0, (logR a).2)
theorem logR_range (a : Int) : 0 ≤ (logR a).1 ∧ (logR a).1 < 255 ∧ ((logR a).2 = 0 ∨ (logR a).2 = 1) := by
  have h : ∀ n i, i + n ≤ 255 → ∀ j, logFrom a n i = some j → j < 255 := by
    intro n
    induction n with
    | zero => intro i _ j h; simp [logFrom] at h
    | succ n ih =>
      intro i hi j h
      unfold logFrom at h
      split at h
      · injection h with h; omega
      · exact ih (i + 1) (by omega) j h
  unfold logR
  cases e : logFrom a 255 0 with
  | none => simp
  | some i => have := h 255 0 (by omega) i e; simp; omega

theorem inv_any (a : Int) (w : World) :
    Calls Try.prog 11 #[.int .u8 a] w fun e w' => e = .returned (.tuple #[.int .u8 (invR a).1, .int .i64 (invR a).2]) ∧ Below w.heap.size w w' := by
  obtain ⟨h0, h1, h2⟩ := logR_range a
  by_cases hz : (logR a).2 = 0
  · have hz' : ((logR a).2 != 0) = false := by simpa using hz
    have HI : Hid (invR a = (expS (-(logR a).1), 0)) := Lib.hid (by unfold invR; rw [if_pos hz])
    have HZ := Lib.hid hz
    clear hz h2
    go_enter Try.func11, Try.ntmps11
    go_wp2_with (first | (go_at_call 13; refine (log_any _ _).mono ?_; rintro e w' ⟨rfl, hb⟩) | (go_at_call 18; refine (exp_any _ _).mono ?_; rintro e w' ⟨rfl, rfl⟩))
    go_ret2
    exact ⟨by rw [HI.out]; rfl, hb⟩
  · have hz' : ((logR a).2 != 0) = true := by simpa using hz
    have HI : Hid (invR a = (0, (logR a).2)) := Lib.hid (by unfold invR; rw [if_neg hz])
    clear hz h2
    go_enter Try.func11, Try.ntmps11
    go_wp2_with (first | (go_at_call 13; refine (log_any _ _).mono ?_; rintro e w' ⟨rfl, hb⟩))
    go_ret2
    exact ⟨by rw [HI.out]; rfl, hb⟩

theorem add_any (a b : Int) (w : World) :
    Calls Try.prog 15 #[.int .u8 a, .int .u8 b] w fun e w' => e = .returned (.int .u8 (Go.bits .xor .u8 a b)) ∧ w = w' := by
  go_enter Try.func15, Try.ntmps15
  go_wp2
  go_ret
  exact ⟨rfl, rfl⟩
end Go.Proofs.Ytndofhcacmghkaa
