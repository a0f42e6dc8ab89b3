import Derived.Test.YtfkfdaammlffmaaProg
import Derived.Test.YtfkfdaammlffmaaMA
import Derived.Test.YtfkfdaammlffmaaK5
/-! circ: the frames of data, whether a scratch fits, the erased symbols of a word. -/
namespace Go.Proofs.Ytfkfdaammlffmaa
set_option linter.unusedVariables false
set_option linter.unusedSimpArgs false
open Go.RowKit Go.Proofs
open Go.Proofs.YtfkfdaammlffmaaW.PrintWords

theorem info_int : (Try.prog.info? 3).map (fun i => (i.zero, i.size, i.bytes)) = some (some (.int .i64 0), 1, 8) := by kernel_rfl
theorem info_bool : (Try.prog.info? 4).map (fun i => (i.zero, i.size, i.bytes)) = some (some (.bool false), 1, 1) := by kernel_rfl

theorem frames_any (d : Int) (h0 : 1 ≤ d) (h1 : d ≤ 401408) (w : World) : Calls Try.prog 40 #[.int .i64 d] w fun e w' => e = .returned (.int .i64 (d + 108)) ∧ w = w' := by
  go_enter Try.func40, Try.ntmps40
  go_wp2
  go_ret
  exact ⟨rfl, rfl⟩

def fitsS (a n fr : Int) : Bool := decide (0 ≤ a) && decide (1 ≤ n) && decide (n ≤ fr) && decide (a ≤ fr - n)
theorem fits_any (a n fr : Int) (h0 : 1 ≤ fr) (h1 : fr ≤ 401600) (w : World) (b : Bool) (hb : fitsS a n fr = b) :
    Calls Try.prog 41 #[.agg #[.int .i64 a, .int .i64 n], .int .i64 fr] w fun e w' => e = .returned (.bool b) ∧ Below w.heap.size w w' := by
  have hbb := (Below.refl w.heap.size w).alloc (Nat.le_refl _) (.cells #[.int .i64 a, .int .i64 n] 36)
  unfold fitsS at hb
  by_cases p1 : 0 ≤ a
  · by_cases p2 : 1 ≤ n
    · by_cases p3 : n ≤ fr
      · by_cases p4 : a ≤ fr - n
        · obtain rfl : b = true := by rw [← hb]; simp [p1, p2, p3, p4]
          clear hb
          go_enter Try.func41, Try.ntmps41
          go_wp2
          go_ret
          exact ⟨by simp [p1, p2, p3, p4], hbb⟩
        · obtain rfl : b = false := by rw [← hb]; simp [p4]
          have d4 : decide (a ≤ fr - n) = false := by simpa using p4
          clear hb
          go_enter Try.func41, Try.ntmps41
          go_wp2
          go_ret
          exact ⟨by simp [d4], hbb⟩
      · obtain rfl : b = false := by rw [← hb]; simp [p3]
        clear hb
        go_enter Try.func41, Try.ntmps41
        go_wp2
        go_ret
        exact ⟨rfl, hbb⟩
    · obtain rfl : b = false := by rw [← hb]; simp [p2]
      clear hb
      go_enter Try.func41, Try.ntmps41
      go_wp2
      go_ret
      exact ⟨rfl, hbb⟩
  · obtain rfl : b = false := by rw [← hb]; simp [p1]
    clear hb
    go_enter Try.func41, Try.ntmps41
    go_wp2
    go_ret
    exact ⟨rfl, hbb⟩
end Go.Proofs.Ytfkfdaammlffmaa
