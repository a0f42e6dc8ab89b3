import Derived.Test.YtlifinlideiloaaEA
import Derived.Test.YtlifinlideiloaaEE
/-! The reference: a number in two bytes. -/
namespace Go.Proofs.Ytlifinlideiloaa
set_option linter.unusedVariables false
set_option linter.unusedSimpArgs false
open Go.RowKit
open Go.Proofs.YtlifinlideiloaaW.PrintWords

theorem rfits_two (n : Int) (h0 : 0 ≤ n) (h1 : n < 65536) (w : World) : Calls Try.prog 94 #[.int .i64 n, .int .i64 2] w fun e w' => e = .returned (.bool true) ∧ w = w' := by
  go_enter Try.func94, Try.ntmps94
  go_wp2
  go_loop [0, 5] (fun m i => ∃ k : Nat, k ≤ 2 ∧ i = .int .i64 k ∧ m = .int .i64 (n / 256 ^ k)) (fun _ i => 2 - (intOf i).toNat)
  case atStart => exact ⟨0, by omega, rfl, by simp⟩
  case round =>
    obtain ⟨k, hk, rfl, rfl⟩ := hrel
    rcases (by omega : k = 0 ∨ k = 1 ∨ k = 2) with rfl | rfl | rfl
    · simp only [Int.pow_zero, Int.ediv_one]
      go_wp2
      go_round
      case rel => exact ⟨1, by omega, by go_num, by simp⟩
      case measure => simp [intOf]
    · simp only [show n / 256 ^ 1 = n / 256 by simp]
      go_wp2
      go_round
      case rel => exact ⟨2, by omega, by go_num, by congr 1; omega⟩
      case measure => simp [intOf]
    · have e : n / 256 ^ 2 = 0 := by omega
      rw [e]
      go_wp2
      go_ret
      exact ⟨rfl, rfl⟩

def loS (n : Int) : Nat → List Int
  | 0 => []
  | 1 => [n % 256]
  | _ => [n % 256, n / 256]
set_option maxRecDepth 100000 in
theorem rbytes_two (n : Int) (h0 : 0 ≤ n) (h1 : n < 65536) (w : World) : Calls Try.prog 95 #[.int .i64 n, .int .i64 2] w fun e w' => e = .returned (.string (strOfNums [n % 256, n / 256])) ∧ Below w.heap.size w w' := by
  go_enter Try.func95, Try.ntmps95
  go_wp2
  have hR0 := ir_lit w w.heap.size .u8 5 [] (Nat.le_refl _) (by simp)
  go_loopw [0, 5, 6] (fun m v i wr => ∃ (k : Nat), k ≤ 2 ∧ i = .int .i64 k ∧ m = .int .i64 (n / 256 ^ k) ∧ IR .u8 5 wr w.heap.size v (loS n k) ∧ Below w.heap.size w wr) (fun _ _ i _ => 2 - (intOf i).toNat)
  case atStart => exact ⟨0, by omega, rfl, by simp, hR0, (Below.refl _ _).alloc (Nat.le_refl _) _⟩
  clear hR0
  case round =>
    obtain ⟨k, hk, rfl, rfl, hR, hB⟩ := hrel
    have hbase := hB.size
    rcases (by omega : k = 0 ∨ k = 1 ∨ k = 2) with rfl | rfl | rfl
    · simp only [Int.pow_zero, Int.ediv_one]
      go_wp2_with (at_builtin; refine ir_app1 (w0 := w) w.heap.size .u8 1 5 87 info_byte Try.underlying87 (by decide) rfl _ _ rfl u5 (loS n 0) (n % 256) rfl rfl hR hB hbase (by simp [loS]) ?_; intro v7 w7 hR7 hb7 hg7 hat7; have HR7 := Lib.hid hR7; clear hR7)
      go_roundw
      case rel => exact ⟨1, by omega, by go_num, by simp, HR7.out, hb7⟩
      case measure => simp [intOf]
    · simp only [show n / 256 ^ 1 = n / 256 by simp]
      go_wp2_with (at_builtin; refine ir_app1 (w0 := w) w.heap.size .u8 1 5 87 info_byte Try.underlying87 (by decide) rfl _ _ rfl u5 (loS n 1) (n / 256 % 256) rfl rfl hR hB hbase (by simp [loS]) ?_; intro v7 w7 hR7 hb7 hg7 hat7; have HR7 := Lib.hid hR7; clear hR7)
      go_roundw
      case rel => exact ⟨2, by omega, by go_num, by congr 1; omega, by have := HR7.out; rw [show n / 256 % 256 = n / 256 by omega] at this; exact this, hb7⟩
      case measure => simp [intOf]
    · obtain ⟨A2, c2, rfl, hc2⟩ := ir_slice hR (n := 2) rfl
      obtain ⟨-, -, hC⟩ := ir_ic hR
      have hx := ic_string (P := Try.prog) 87 9 5 Try.underlying87 Try.underlying5 Try.underlying9 hC 2 c2 (by rfl)
      clear hR hC
      go_wp2
      go_ret
      exact ⟨rfl, hB⟩

theorem rlittle_two (n : Int) (h0 : 0 ≤ n) (h1 : n < 65536) (w : World) : Calls Try.prog 88 #[.int .i64 n, .int .i64 2] w fun e w' => e = .returned (.tuple #[.string (strOfNums [n % 256, n / 256]), .int .i64 0]) ∧ Below w.heap.size w w' := by
  go_enter Try.func88, Try.ntmps88
  go_wp2_with fail
  refine (rfits_two n h0 h1 _).mono ?_
  rintro e w' ⟨rfl, rfl⟩
  go_wp2_with fail
  refine (rbytes_two n h0 h1 _).mono ?_
  rintro e w' ⟨rfl, hb⟩
  go_wp2
  go_ret2
  exact ⟨rfl, hb⟩

def upS (a b : Int) : Nat → List Int
  | 0 => []
  | 1 => [b]
  | _ => [b, a]
theorem two_at (a b : Nat) (ha : a < 256) (hb : b < 256) : (strOfNums [(a : Int), b]).size = 2 ∧ (∀ h, ((strOfNums [(a : Int), b])[0]'h).toNat = a) ∧ (∀ h, ((strOfNums [(a : Int), b])[1]'h).toNat = b) := by
  refine ⟨by simp [strOfNums_size], fun h => ?_, fun h => ?_⟩
  · show (UInt8.ofNat (a : Int).toNat).toNat = a
    rw [Int.toNat_natCast, UInt8.toNat_ofNat_of_lt' (by exact ha)]
  · show (UInt8.ofNat (b : Int).toNat).toNat = b
    rw [Int.toNat_natCast, UInt8.toNat_ofNat_of_lt' (by exact hb)]
set_option maxRecDepth 100000 in
theorem rreverse_two (s : ByteArray) (hs : s.size = 2) (a b : Nat) (ha : (s[0]'(by omega)).toNat = a) (hb : (s[1]'(by omega)).toNat = b) (w : World) : Calls Try.prog 89 #[.string s] w fun e w' => e = .returned (.string (strOfNums [(b : Int), a])) ∧ Below w.heap.size w w' := by
  have l0 : 0 < s.size := by omega
  have l1 : 1 < s.size := by omega
  have hz : ((s.size : Nat) : Int) = 2 := by omega
  go_enter Try.func89, Try.ntmps89
  go_wp2
  have hR0 := ir_lit w w.heap.size .u8 5 [] (Nat.le_refl _) (by simp)
  go_loopw [3, 4] (fun v i wr => ∃ (k : Nat), k ≤ 2 ∧ i = .int .i64 (1 - k) ∧ IR .u8 5 wr w.heap.size v (upS a b k) ∧ Below w.heap.size w wr) (fun _ i _ => (intOf i + 1).toNat)
  case atStart => exact ⟨0, by omega, by simp [hz], hR0, (Below.refl _ _).alloc (Nat.le_refl _) _⟩
  clear hR0
  case round =>
    obtain ⟨k, hk, rfl, hR, hB⟩ := hrel
    have hbase := hB.size
    rcases (by omega : k = 0 ∨ k = 1 ∨ k = 2) with rfl | rfl | rfl
    · simp only [show ((1 : Int) - (0 : Nat)) = 1 by omega]
      go_wp2_with (at_builtin; refine ir_app1 (w0 := w) w.heap.size .u8 1 5 87 info_byte Try.underlying87 (by decide) rfl _ _ rfl u3 (upS a b 0) b rfl rfl hR hB hbase (by simp [upS]) ?_; intro v7 w7 hR7 hb7 hg7 hat7; have HR7 := Lib.hid hR7; clear hR7)
      go_roundw
      case rel => exact ⟨1, by omega, by go_num, HR7.out, hb7⟩
      case measure => simp [intOf]
    · simp only [show ((1 : Int) - (1 : Nat)) = 0 by omega]
      go_wp2_with (at_builtin; refine ir_app1 (w0 := w) w.heap.size .u8 1 5 87 info_byte Try.underlying87 (by decide) rfl _ _ rfl u3 (upS a b 1) a rfl rfl hR hB hbase (by simp [upS]) ?_; intro v7 w7 hR7 hb7 hg7 hat7; have HR7 := Lib.hid hR7; clear hR7)
      go_roundw
      case rel => exact ⟨2, by omega, by go_num, HR7.out, hb7⟩
      case measure => simp [intOf]
    · simp only [show ((1 : Int) - (2 : Nat)) = -1 by omega]
      obtain ⟨A2, c2, rfl, hc2⟩ := ir_slice hR (n := 2) rfl
      obtain ⟨-, -, hC⟩ := ir_ic hR
      have hx := ic_string (P := Try.prog) 87 9 5 Try.underlying87 Try.underlying5 Try.underlying9 hC 2 c2 (by rfl)
      clear hR hC
      go_wp2
      go_ret
      exact ⟨rfl, hB⟩
theorem rtwo_any (n : Int) (h0 : 0 ≤ n) (h1 : n < 65536) (w : World) : Calls Try.prog 56 #[.int .i64 n] w fun e w' => e = .returned (.string (strOfNums (twoS n))) ∧ Below w.heap.size w w' := by
  have hbig : Calls Try.prog 77 #[.int .i64 n, .int .i64 2] w fun e w' => e = .returned (.tuple #[.string (strOfNums (twoS n)), .int .i64 0]) ∧ Below w.heap.size w w' := by
    obtain ⟨t1, t2, t3⟩ := two_at (n % 256).toNat (n / 256).toNat (by omega) (by omega)
    have e1 : (((n % 256).toNat : Nat) : Int) = n % 256 := by omega
    have e2 : (((n / 256).toNat : Nat) : Int) = n / 256 := by omega
    rw [e1, e2] at t1 t2 t3
    obtain ⟨s, hs⟩ : ∃ s, strOfNums [n % 256, n / 256] = s := ⟨_, rfl⟩
    have hlit := rlittle_two n h0 h1
    rw [hs] at t1 t2 t3 hlit
    clear hs
    go_enter Try.func77, Try.ntmps77
    go_wp2_with fail
    refine (hlit _).mono ?_
    rintro e w1 ⟨rfl, hb⟩
    go_wp2_with fail
    refine (rreverse_two s t1 _ _ (t2 (by omega)) (t3 (by omega)) _).mono ?_
    rw [e1, e2]
    rintro e w2 ⟨rfl, hb2⟩
    have hb3 := below_step hb hb2
    clear hlit t2 t3
    go_wp2
    go_ret2
    exact ⟨rfl, hb3⟩
  go_enter Try.func56, Try.ntmps56
  go_wp2_with fail
  refine hbig.mono ?_
  rintro e w1 ⟨rfl, hb⟩
  go_wp2
  go_ret
  exact ⟨rfl, hb⟩
end Go.Proofs.Ytlifinlideiloaa
