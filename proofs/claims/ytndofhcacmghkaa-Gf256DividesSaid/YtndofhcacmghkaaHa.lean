import Derived.Test.YtndofhcacmghkaaProg
import Derived.Test.YtndofhcacmghkaaK0
namespace Go.Proofs.Ytndofhcacmghkaa
set_option linter.unusedVariables false
set_option linter.unusedSimpArgs false
open Go.RowKit

theorem double_any (a : Int) (w : World) :
    Calls Try.prog 31 #[.int .u8 a] w fun e w' => e = .returned (.int .u8 (if 128 ≤ a then Go.bits .xor .u8 ((a * 2) % 256) 29 else (a * 2) % 256)) ∧ w = w' := by
  by_cases h : 128 ≤ a
  · go_enter Try.func31, Try.ntmps31
    go_wp2
    go_ret
    simp
  · go_enter Try.func31, Try.ntmps31
    go_wp2
    go_ret
    simp

def zeros255 : Array Value := Array.replicate 255 (.int .u8 0)
theorem zero_arr (w : World) : (zeroValue 45).run Try.prog w = .ok (.agg zeros255) w := by kernel_rfl
/-- double, as the code has it -/
def dbl (a : Int) : Int := if 128 ≤ a then Go.bits .xor .u8 ((a * 2) % 256) 29 else (a * 2) % 256
/-- the k-th power -/
def pw : Nat → Int
  | 0 => 1
  | k + 1 => dbl (pw k)
def powsTo (k : Nat) : Array Value := Array.ofFn (n := 255) fun i => .int .u8 (if i.val < k then pw i.val else 0)
theorem powsTo_zero : powsTo 0 = zeros255 := by
  apply Array.ext <;> simp [powsTo, zeros255]
theorem powsTo_succ (k : Nat) (h : k < 255) : (powsTo k).setIfInBounds k (.int .u8 (pw k)) = powsTo (k + 1) := by
  apply Array.ext
  · simp [powsTo]
  · intro i h1 h2
    simp only [powsTo, Array.size_setIfInBounds, Array.size_ofFn] at h1
    rw [Array.getElem_setIfInBounds (by simpa [powsTo] using h1)]
    by_cases e : k = i
    · subst e; simp [powsTo]
    · rw [if_neg e]
      simp only [powsTo, Array.getElem_ofFn]
      by_cases h3 : i < k
      · rw [if_pos h3, if_pos (by omega)]
      · rw [if_neg h3, if_neg (by omega)]

theorem powsTo_one (k : Nat) : (powsTo k).all (·.oneCell') = true := by
  rw [Array.all_eq_true]
  intro i hi
  simp [powsTo, Value.oneCell']

set_option maxRecDepth 100000 in
theorem powers_any (w : World) :
    Calls Try.prog 30 #[] w fun e w' => e = .returned (.agg (powsTo 255)) ∧ Below w.heap.size w w' := by
  have hz := zero_arr
  go_enter Try.func30, Try.ntmps30
  go_wp2
  clear hz
  go_loopw [2, 3, 4] (fun a _ i wr => ∃ k : Nat, k ≤ 255 ∧ i = .int .i64 k ∧ a = .int .u8 (pw k) ∧ wr.heap[w.heap.size + 1]? = some (.cells (powsTo k) 45 (0, 0)) ∧ wr.heap[w.heap.size]? = some (.cells zeros255 45 (0, 0)) ∧ Below w.heap.size w wr)
    (fun _ _ i _ => 255 - (intOf i).toNat)
  case atStart =>
    refine ⟨0, by omega, rfl, rfl, ?_, ?_, ?_⟩
    · rw [powsTo_zero]; exact heap_alloc2_new _ _ _
    · exact heap_alloc2_old _ _ _
    · exact ((Below.refl _ w).alloc (Nat.le_refl _) _).alloc (by simp) _
  case round =>
    obtain ⟨k, hk, rfl, rfl, h1, h0, hb⟩ := hrel
    by_cases hlt : k < 255
    · have hc : wr.cell? ⟨w.heap.size + 1, k, none⟩ = some (.int .u8 0) := by
        rw [cell_of_row _ _ _ _ _ _ h1]; simp [powsTo, hlt]
      have hf := frozen_of_row _ _ k _ _ h1
      go_wp2_with (go_at_call 31; refine (double_any _ _).mono ?_; rintro e w' ⟨rfl, rfl⟩)
      go_roundw
      case rel =>
        refine ⟨k + 1, by omega, by go_num, rfl, ?_, ?_, ?_⟩
        · rw [heap_setCell_same _ _ _ _ _ _ h1, powsTo_succ k hlt]
        · rw [heap_setCell_other _ _ _ _ (by simp), h0]
        · exact hb.setCell (by simp) _
      case measure => simp [intOf]; omega
    · obtain rfl : k = 255 := by omega
      go_wp2_with (first | refine wpList_load_row rfl 45 _ rfl _ rfl _ _ _ _ h1 Try.underlying45 rfl (by kernel_rfl) ?_ | refine wpList_store_row rfl 45 _ _ rfl _ _ rfl rfl _ _ h0 (by kernel_rfl) (by simp [powsTo, zeros255]) (powsTo_one _) ?_)
      refine bodyPost_ret (results_cell_row rfl _ _ w.heap.size 45 (powsTo 255) (0, 0) _ rfl (setRow_heap _ _ _ _ _ _ h0) Try.underlying45 rfl (by kernel_rfl)) rfl ?_
      exact ⟨rfl, below_setRow hb (Nat.le_refl _) _⟩

/-- where an element stands among the powers from i on -/
def logFrom (a : Int) : Nat → Nat → Option Nat
  | 0, _ => none
  | n + 1, i => if pw i = a then some i else logFrom a n (i + 1)
def logR (a : Int) : Int × Int := match logFrom a 255 0 with | some i => (i, 0) | none => (0, 1)

theorem logFrom_hit {a : Int} {k : Nat} (h : k < 255) (e : pw k = a) : logFrom a (255 - k) k = some k := by
  rw [show 255 - k = (254 - k) + 1 by omega, logFrom, if_pos e]
theorem logFrom_miss {a : Int} {k : Nat} (h : k < 255) (e : ¬ pw k = a) : logFrom a (255 - k) k = logFrom a (255 - (k + 1)) (k + 1) := by
  rw [show 255 - k = (254 - k) + 1 by omega, logFrom, if_neg e]
  congr 1
  omega
theorem logR_hit {a : Int} {k : Nat} (h : logFrom a 255 0 = some k) : logR a = ((k : Int), 0) := by unfold logR; rw [h]
theorem logR_miss {a : Int} (h : logFrom a 255 0 = none) : logR a = (0, 1) := by unfold logR; rw [h]

theorem powsTo_at (k : Nat) (h : k < 255) : (powsTo 255)[k]? = some (.int .u8 (pw k)) := by
  simp [powsTo, h]

set_option maxRecDepth 100000 in
theorem log_any (a : Int) (w : World) :
    Calls Try.prog 13 #[.int .u8 a] w fun e w' => e = .returned (.tuple #[.int .i64 (logR a).1, .int .i64 (logR a).2]) ∧ Below w.heap.size w w' := by
  obtain ⟨i5, hi5, hz5, hs5, _⟩ := info_parts (show (Try.prog.info? 5).map (fun i => (i.zero, i.size, i.bytes)) = some (some (.int .u8 0), 1, 1) by kernel_rfl)
  have hidx := fun (k : Nat) (hk : k < 255) (w : World) => run_index_arr (P := Try.prog) 45 5 255 Try.underlying45 _ Try.underlying5 rfl i5 hi5 hs5 (powsTo 255) .i64 k hk _ (powsTo_at k hk) w
  go_enter Try.func13, Try.ntmps13
  have HI := Lib.hid hidx
  clear hidx
  go_wp2_with (go_at_call 30; refine (powers_any _).mono ?_; rintro e w' ⟨rfl, hb⟩)
  go_loopw [4, 5, 7] (fun _ _ i wr => ∃ k : Nat, k ≤ 255 ∧ i = .int .i64 k ∧ logFrom a 255 0 = logFrom a (255 - k) k ∧ Below w.heap.size w wr) (fun _ _ i _ => 255 - (intOf i).toNat)
  case atStart => exact ⟨0, by omega, rfl, rfl, hb⟩
  case round =>
    obtain ⟨k, hk, rfl, hl, hb⟩ := hrel
    have HL := Lib.hid hl
    clear hl
    by_cases hlt : k < 255
    · have hix := HI.out k hlt
      by_cases he : pw k = a
      · have he' : (pw k == a) = true := by simpa using he
        have HE := Lib.hid he
        clear he
        go_wp2
        go_ret2
        refine ⟨?_, hb⟩
        rw [logR_hit (HL.out.trans (logFrom_hit hlt HE.out))]
        rfl
      · have he' : (pw k == a) = false := by simpa using he
        have HE := Lib.hid he
        clear he
        go_wp2
        go_roundw
        case rel =>
          exact ⟨k + 1, by omega, by go_num, HL.out.trans (logFrom_miss hlt HE.out), hb⟩
        case measure => simp [intOf]; omega
    · obtain rfl : k = 255 := by omega
      go_wp2
      go_ret2
      refine ⟨?_, hb⟩
      rw [logR_miss (HL.out.trans rfl)]
      rfl
end Go.Proofs.Ytndofhcacmghkaa
