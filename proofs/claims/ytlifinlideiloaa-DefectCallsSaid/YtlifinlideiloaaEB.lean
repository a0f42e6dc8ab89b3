import Derived.Test.YtlifinlideiloaaEA
import Derived.Test.YtlifinlideiloaaK0
/-! The cyclic redundancy check. -/
namespace Go.Proofs.Ytlifinlideiloaa
set_option linter.unusedVariables false
set_option linter.unusedSimpArgs false
open Go.RowKit
open Go.Proofs.YtlifinlideiloaaW.PrintWords

/-- one bit of the check -/
def stpS (n : Int) : Int := if n / 32768 = 1 then Go.bits .xor .u16 (n * 2 % 65536) 4129 else n * 2 % 65536
def itS : Nat → Int → Int
  | 0, n => n
  | k + 1, n => stpS (itS k n)
theorem bits_u16_range (op : BinOp) (a b : Int) : 0 ≤ Go.bits op .u16 a b ∧ Go.bits op .u16 a b ≤ 65535 := by
  unfold Go.bits
  simp only [IntKind.wrap_u16]
  omega
theorem stpS_range (n : Int) : 0 ≤ stpS n ∧ stpS n ≤ 65535 := by
  unfold stpS
  split
  · exact bits_u16_range _ _ _
  · omega
theorem itS_range (k : Nat) (n : Int) (h : 0 ≤ n ∧ n ≤ 65535) : 0 ≤ itS k n ∧ itS k n ≤ 65535 := by
  cases k with
  | zero => exact h
  | succ k => exact stpS_range _

theorem direct1_any (b : Int) (h0 : 0 ≤ b) (h1 : b ≤ 255) (w : World) : Calls Try.prog 91 #[.int .u8 b] w fun e w' => e = .returned (.int .u16 (itS 8 (b * 256))) ∧ w = w' := by
  go_enter Try.func91, Try.ntmps91
  go_wp2
  go_loop [3, 7] (fun n i => ∃ k : Nat, k ≤ 8 ∧ i = .int .i64 k ∧ n = .int .u16 (itS k (b * 256))) (fun _ i => 8 - (intOf i).toNat)
  case atStart => exact ⟨0, by omega, rfl, by simp [itS]⟩
  case round =>
    obtain ⟨k, hk, rfl, rfl⟩ := hrel
    by_cases hlt : k < 8
    · have hr := itS_range k (b * 256) (by omega)
      obtain ⟨x, hx⟩ : ∃ x, itS k (b * 256) = x := ⟨_, rfl⟩
      rw [hx] at hr
      have hs : itS (k + 1) (b * 256) = stpS x := by rw [itS, hx]
      rw [hx]
      have x0 := hr.1
      have x1 := hr.2
      clear hr hx
      by_cases ht : x / 32768 = 1
      · have et : (x / 32768 == 1) = true := by simpa using ht
        have HS : Hid (itS (k + 1) (b * 256) = Go.bits .xor .u16 (x * 2 % 65536) 4129) := Lib.hid (by rw [hs, stpS, if_pos ht])
        clear ht hs
        go_wp2
        go_round
        case rel => exact ⟨k + 1, by omega, by go_num, by rw [HS.out, IntKind.wrap_u16]⟩
        case measure => simp [intOf]; omega
      · have et : (x / 32768 == 1) = false := by simpa using ht
        have HS : Hid (itS (k + 1) (b * 256) = x * 2 % 65536) := Lib.hid (by rw [hs, stpS, if_neg ht])
        clear ht hs
        go_wp2
        go_round
        case rel => exact ⟨k + 1, by omega, by go_num, by rw [HS.out, IntKind.wrap_u16]⟩
        case measure => simp [intOf]; omega
    · obtain rfl : k = 8 := by omega
      go_wp2
      go_ret
      exact ⟨rfl, rfl⟩

/-- what the table says of a byte -/
def crcT (i : Nat) : Int := itS 8 ((i : Int) * 256)
def tabTo (k : Nat) : Array Value := Array.ofFn (n := 256) fun i => .int .u16 (if i.val < k then crcT i.val else 0)
def zeros256 : Array Value := Array.replicate 256 (.int .u16 0)
theorem zero_tab (w : World) : (zeroValue 105).run Try.prog w = .ok (.agg zeros256) w := by kernel_rfl
theorem tabTo_zero : tabTo 0 = zeros256 := by
  apply Array.ext <;> simp [tabTo, zeros256]
theorem tabTo_succ (k : Nat) (h : k < 256) : (tabTo k).setIfInBounds k (.int .u16 (crcT k)) = tabTo (k + 1) := by
  apply Array.ext
  · simp [tabTo]
  · intro i h1 h2
    simp only [tabTo, Array.size_setIfInBounds, Array.size_ofFn] at h1
    rw [Array.getElem_setIfInBounds (by simpa [tabTo] using h1)]
    by_cases e : k = i
    · subst e; simp [tabTo]
    · rw [if_neg e]
      simp only [tabTo, Array.getElem_ofFn]
      by_cases h3 : i < k
      · rw [if_pos h3, if_pos (by omega)]
      · rw [if_neg h3, if_neg (by omega)]
theorem tabTo_one (k : Nat) : (tabTo k).all (·.oneCell') = true := by
  rw [Array.all_eq_true]
  intro i hi
  simp [tabTo, Value.oneCell']
theorem tabTo_at (k : Nat) (h : k < 256) : (tabTo 256)[k]? = some (.int .u16 (crcT k)) := by
  simp [tabTo, h]

set_option maxRecDepth 100000 in
theorem table_any (w : World) :
    Calls Try.prog 90 #[.func (.func 91) #[] #[]] w fun e w' => e = .returned (.agg (tabTo 256)) ∧ Below w.heap.size w w' := by
  have hz := zero_tab
  go_enter Try.func90, Try.ntmps90
  go_wp2
  clear hz
  go_loopw [5] (fun i wr => ∃ k : Nat, k ≤ 256 ∧ i = .int .i64 k ∧ wr.heap[w.heap.size + 1]? = some (.cells (tabTo k) 105 (0, 0)) ∧ wr.heap[w.heap.size]? = some (.cells zeros256 105 (0, 0)) ∧ Below w.heap.size w wr)
    (fun i _ => 256 - (intOf i).toNat)
  case atStart =>
    refine ⟨0, by omega, rfl, ?_, ?_, ?_⟩
    · rw [tabTo_zero]; exact heap_alloc2_new _ _ _
    · exact heap_alloc2_old _ _ _
    · exact ((Below.refl _ w).alloc (Nat.le_refl _) _).alloc (by simp) _
  case round =>
    obtain ⟨k, hk, rfl, h1, h0, hb⟩ := hrel
    by_cases hlt : k < 256
    · have hc : wr.cell? ⟨w.heap.size + 1, k, none⟩ = some (.int .u16 0) := by
        rw [cell_of_row _ _ _ _ _ _ h1]; simp [tabTo, hlt]
      have hf := frozen_of_row _ _ k _ _ h1
      have HD := Lib.hid (direct1_any k (by omega) (by omega) wr)
      go_wp2_with fail
      refine HD.out.mono ?_
      rintro e w' ⟨rfl, rfl⟩
      go_wp2
      go_roundw
      case rel =>
        refine ⟨k + 1, by omega, by go_num, ?_, ?_, ?_⟩
        · rw [heap_setCell_same _ _ _ _ _ _ h1, ← tabTo_succ k hlt]; rfl
        · rw [heap_setCell_other _ _ _ _ (by simp), h0]
        · exact hb.setCell (by simp) _
      case measure => simp [intOf]; omega
    · obtain rfl : k = 256 := by omega
      go_wp2_with (first | refine wpList_load_row rfl 105 _ rfl _ rfl _ _ _ _ h1 Try.underlying105 rfl (by kernel_rfl) ?_ | refine wpList_store_row rfl 105 _ _ rfl _ _ rfl rfl _ _ h0 (by kernel_rfl) (by simp [tabTo, zeros256]) (tabTo_one _) ?_)
      refine bodyPost_ret (results_cell_row rfl _ _ w.heap.size 105 (tabTo 256) (0, 0) _ rfl (setRow_heap _ _ _ _ _ _ h0) Try.underlying105 rfl (by kernel_rfl)) rfl ?_
      exact ⟨rfl, below_setRow hb (Nat.le_refl _) _⟩

set_option maxRecDepth 100000 in
theorem direct_any (w : World) :
    Calls Try.prog 79 #[] w fun e w' => e = .returned (.agg (tabTo 256)) ∧ Below w.heap.size w w' := by
  have hz := zero_tab
  go_enter Try.func79, Try.ntmps79
  go_wp2_with fail
  refine (table_any _).mono ?_
  rintro e w1 ⟨rfl, hb⟩
  have h0 : w1.heap[w.heap.size]? = some (.cells zeros256 105 (0, 0)) := by rw [hb.block _ (by simp)]; exact heap_alloc_new _ _
  clear hz
  go_wp2_with (refine wpList_store_row rfl 105 _ _ rfl _ _ rfl rfl _ _ h0 (by kernel_rfl) (by simp [tabTo, zeros256]) (tabTo_one _) ?_)
  refine bodyPost_ret (results_cell_row rfl _ _ w.heap.size 105 (tabTo 256) (0, 0) _ rfl (setRow_heap _ _ _ _ _ _ h0) Try.underlying105 rfl (by kernel_rfl)) rfl ?_
  exact ⟨rfl, below_setRow (((Below.refl _ w).alloc (Nat.le_refl _) _).trans (hb.mono (by simp))) (Nat.le_refl _) _⟩
end Go.Proofs.Ytlifinlideiloaa
