import Derived.Test.YtlifinlideiloaaK3
import Derived.Test.YtlifinlideiloaaProg
/-! Numbers in two bytes, the most significant one first. -/
namespace Go.Proofs.Ytlifinlideiloaa
set_option linter.unusedVariables false
set_option linter.unusedSimpArgs false
open Go.RowKit
open Go.Proofs.YtlifinlideiloaaW.PrintWords

theorem info_byte : (Try.prog.info? 5).map (fun i => (i.zero, i.size, i.bytes)) = some (some (.int .u8 0), 1, 1) := by kernel_rfl

theorem fits_two (n : Int) (h0 : 0 ≤ n) (h1 : n < 65536) (w : World) : Calls Try.prog 81 #[.int .i64 n, .int .i64 2] w fun e w' => e = .returned (.bool true) ∧ w = w' := by
  go_enter Try.func81, Try.ntmps81
  go_wp2
  go_ret
  exact ⟨rfl, rfl⟩
theorem check_two (n : Int) (h0 : 0 ≤ n) (h1 : n < 65536) (w : World) : Calls Try.prog 61 #[.int .i64 n, .int .i64 2] w fun e w' => e = .returned (.int .i64 0) ∧ w = w' := by
  go_enter Try.func61, Try.ntmps61
  go_wp2_with (go_at_call 81; refine (fits_two n h0 h1 _).mono ?_; rintro e w' ⟨rfl, rfl⟩)
  go_ret
  exact ⟨rfl, rfl⟩
theorem down_any (s : Int) (w : World) : Calls Try.prog 63 #[.int .i64 s] w fun e w' => e = .returned (.func (.func 82) #[] #[.pointer (some ⟨w.heap.size, 0, none⟩)]) ∧ w' = w.alloc (.cells #[.int .i64 s] 3) := by
  go_enter Try.func63, Try.ntmps63
  go_wp2
  go_ret
  exact ⟨rfl, rfl⟩
theorem down1_any (i s : Int) (h : 0 ≤ i ∧ i ≤ 8 ∧ 0 ≤ s ∧ s ≤ 8) (B : Nat) (w : World) (hc : w.cell? ⟨B, 0, none⟩ = some (.int .i64 s)) :
    Calls Try.prog 82 #[.int .i64 i, .pointer (some ⟨B, 0, none⟩)] w fun e w' => e = .returned (.int .i64 (s - 1 - i)) ∧ w = w' := by
  obtain ⟨h1, h2, h3, h4⟩ := h
  go_enter Try.func82, Try.ntmps82
  go_wp2
  go_ret
  exact ⟨rfl, rfl⟩

/-- the row, k bytes written -/
def wrS (n : Int) : Nat → List Int
  | 0 => [0, 0]
  | 1 => [0, n % 256]
  | _ => [n / 256, n % 256]

set_option maxRecDepth 100000 in
theorem write_two (n : Int) (h0 : 0 ≤ n) (h1 : n < 65536) (B : Nat) (w : World) (hc : w.cell? ⟨B, 0, none⟩ = some (.int .i64 2)) (hB' : B < w.heap.size) :
    Calls Try.prog 62 #[.int .i64 n, .int .i64 2, .func (.func 82) #[] #[.pointer (some ⟨B, 0, none⟩)]] w fun e w' => e = .returned (.string (strOfNums [n / 256, n % 256])) ∧ Below w.heap.size w w' := by
  go_enter Try.func62, Try.ntmps62
  go_wp2_with (at_make; refine ir_make (w0 := w) w.heap.size .u8 1 5 87 info_byte Try.underlying87 (by decide) rfl rfl _ _ rfl _ rfl rfl (by omega) (by omega) (Below.refl _ _) (Nat.le_refl _) ?_; intro v1 w1 hR1 hB1 hb1; clear hb1; obtain ⟨A1, c1, rfl, hc1⟩ := ir_slice hR1 (n := 2) (by simp))
  obtain ⟨g, rfl, hg⟩ := ir_some hR1 (by omega)
  replace hR1 : IR .u8 5 w1 w.heap.size (.slice (some ⟨g, 0, none⟩) 2 c1) (wrS n 0) := hR1
  go_loopw [12] (fun i wr => ∃ (k : Nat), k ≤ 2 ∧ i = .int .i64 k ∧ IR .u8 5 wr w.heap.size (.slice (some ⟨g, 0, none⟩) 2 c1) (wrS n k) ∧ Below w.heap.size w wr) (fun i _ => 2 - (intOf i).toNat)
  case atStart => exact ⟨0, by omega, rfl, hR1, hB1⟩
  clear hR1 hB1
  case round =>
    obtain ⟨k, hk, rfl, hR, hB⟩ := hrel
    by_cases hlt : k < 2
    · have hcw : wr.cell? ⟨B, 0, none⟩ = some (.int .i64 2) := by rw [hB.cell (p := ⟨B, 0, none⟩) hB']; exact hc
      rcases (by omega : k = 0 ∨ k = 1) with rfl | rfl
      · obtain ⟨hx, hxf⟩ := ir_cell hR 1 (by omega)
        have hput := ir_put hR 1 (n % 256)
        go_wp2
        have s0 : IntKind.i64.wrap 0 = 0 := by decide
        have s8 : IntKind.i64.wrap 8 = 8 := by decide
        go_still_tail 10, (by kernel_rfl)
        still_call ((down1_any 0 2 (by omega) B wr.drew hcw).mono fun e w' ⟨he, hw⟩ => ⟨he, hw.symm⟩)
        repeat still_step
        refine wpStill_nil ?_
        change wpList _ _ _ _ _ wr.drew
        go_wp2
        go_roundw
        case rel =>
          refine ⟨1, by omega, by go_num, ?_, below_drew (hB.setCell hg _)⟩
          have h2 := Kd.R_drew hput
          exact h2
        case measure => simp [intOf]
      · obtain ⟨hx, hxf⟩ := ir_cell hR 0 (by omega)
        have hput := ir_put hR 0 (n / 256)
        go_wp2
        have s0 : IntKind.i64.wrap 0 = 0 := by decide
        have s8 : IntKind.i64.wrap 8 = 8 := by decide
        go_still_tail 10, (by kernel_rfl)
        still_call ((down1_any 1 2 (by omega) B wr.drew hcw).mono fun e w' ⟨he, hw⟩ => ⟨he, hw.symm⟩)
        repeat still_step
        refine wpStill_nil ?_
        change wpList _ _ _ _ _ wr.drew
        go_wp2
        go_roundw
        case rel =>
          refine ⟨2, by omega, by go_num, ?_, below_drew (hB.setCell hg _)⟩
          have h2 := Kd.R_drew hput
          exact h2
        case measure => simp [intOf]
    · obtain rfl : k = 2 := by omega
      obtain ⟨-, -, hC⟩ := ir_ic hR
      have hx := ic_string (P := Try.prog) 87 9 5 Try.underlying87 Try.underlying5 Try.underlying9 hC 2 c1 (by rfl)
      go_wp2
      go_ret
      exact ⟨rfl, hB⟩

/-- a number in two bytes -/
def twoS (n : Int) : List Int := [n / 256, n % 256]
theorem big_two (n : Int) (h0 : 0 ≤ n) (h1 : n < 65536) (w : World) :
    Calls Try.prog 47 #[.int .i64 n, .int .i64 2] w fun e w' => e = .returned (.tuple #[.string (strOfNums (twoS n)), .int .i64 0]) ∧ Below w.heap.size w w' := by
  go_enter Try.func47, Try.ntmps47
  go_wp2_with fail
  refine (check_two n h0 h1 _).mono ?_
  rintro e w' ⟨rfl, rfl⟩
  go_wp2_with fail
  refine (down_any 2 _).mono ?_
  rintro e w' ⟨rfl, rfl⟩
  go_wp2_with fail
  refine (write_two n h0 h1 w.heap.size _ (by simp) (by simp)).mono ?_
  rintro e w2 ⟨rfl, hb⟩
  go_wp2
  go_ret2
  exact ⟨rfl, ((Below.refl _ _).alloc (Nat.le_refl _) _).trans (hb.mono (by simp))⟩
end Go.Proofs.Ytlifinlideiloaa
