import Derived.Test.YtndofhcacmghkaaHe
namespace Go.Proofs.Ytndofhcacmghkaa
set_option linter.unusedVariables false
set_option linter.unusedSimpArgs false
open Go.RowKit
open Go.Proofs.YtndofhcacmghkaaW.PrintWords

theorem inS_inB {q : List Int} {f : Int} {i : Nat} (k : Nat) {r : List Int} (h : InB r) : InB (inS q f i k r) := by
  induction k with
  | zero => exact h
  | succ k ih =>
    rw [inS]
    intro x hx
    rcases List.mem_or_eq_of_mem_set hx with hx | rfl
    · exact ih x hx
    · exact bits_u8_range _ _ _
theorem outP_inB (p q : List Int) (i : Nat) : InB (outP p q i) := by
  induction i with
  | zero => intro x hx; simp [outP] at hx; omega
  | succ i ih => rw [outP]; exact inS_inB _ ih
theorem prodS_inB (p q : List Int) : InB (prodS p q) := by
  unfold prodS
  split
  · intro x hx; simp at hx
  · exact outP_inB _ _ _

theorem inB_two (n : Int) : InB [1, expS n] := by
  intro x hx
  simp only [List.mem_cons, List.not_mem_nil, or_false] at hx
  rcases hx with rfl | rfl
  · omega
  · exact pw_range _

/-- the generator polynomial for n parity symbols -/
def genS : Nat → List Int
  | 0 => [1]
  | i + 1 => prodS (genS i) [1, expS i]
theorem genS_length (n : Nat) : (genS n).length = n + 1 := by
  induction n with
  | zero => rfl
  | succ n ih =>
    rw [genS, prodS, if_neg, outP_length, ih]
    · simp
    · rintro (h | h)
      · rw [h] at ih; simp at ih
      · simp at h
def genR (n : Int) : List Int × Int := if n < 0 ∨ 32 < n then ([], 2) else (genS n.toNat, 0)

set_option maxRecDepth 100000 in
theorem generator_any (n : Int) (w : World) :
    Calls Try.prog 20 #[.int .i64 n] w fun e w' =>
      ∃ v, e = .returned (.tuple #[v, .int .i64 (genR n).2]) ∧ IR .u8 5 w' w.heap.size v (genR n).1 ∧ Below w.heap.size w w' := by
  by_cases h1 : n < 0
  · have HE : Hid (genR n = ([], 2)) := Lib.hid (by unfold genR; rw [if_pos (.inl h1)])
    go_enter Try.func20, Try.ntmps20
    go_wp2
    go_ret2
    exact ⟨_, by rw [HE.out]; rfl, by rw [HE.out]; exact ir_nil _ _ _ _, Below.refl _ _⟩
  by_cases h2 : 32 < n
  · have HE : Hid (genR n = ([], 2)) := Lib.hid (by unfold genR; rw [if_pos (.inr h2)])
    go_enter Try.func20, Try.ntmps20
    go_wp2
    go_ret2
    exact ⟨_, by rw [HE.out]; rfl, by rw [HE.out]; exact ir_nil _ _ _ _, Below.refl _ _⟩
  obtain ⟨m, rfl⟩ := Int.eq_ofNat_of_zero_le (show 0 ≤ n by omega)
  have HE : Hid (genR m = (genS m, 0)) := Lib.hid (by unfold genR; rw [if_neg (by omega)]; rfl)
  have hm : m ≤ 32 := by omega
  clear h1 h2
  go_enter Try.func20, Try.ntmps20
  go_wp2
  go_loopw [4, 14] (fun v i wr => ∃ (k : Nat), k ≤ m ∧ i = .int .i64 k ∧ IR .u8 5 wr w.heap.size v (genS k) ∧ Below w.heap.size w wr) (fun _ i _ => m - (intOf i).toNat)
  case atStart => exact ⟨0, by omega, rfl, ir_lit w w.heap.size .u8 5 [1] (Nat.le_refl _) (by simp), (Below.refl _ _).alloc (Nat.le_refl _) _⟩
  case round =>
    obtain ⟨k, hk, rfl, hR, hB⟩ := hrel
    by_cases hlt : k < m
    · obtain ⟨A, c, rfl, hc, hC⟩ := ir_reads hR
      clear hR
      have hl := genS_length k
      have HC := Lib.hid hC
      have HL := Lib.hid hl
      have hll : (genS k).length ≤ 33 := by omega
      clear hC hl
      go_wp2_with (first | (go_at_call 18; refine (exp_any _ _).mono ?_; rintro e w' ⟨rfl, rfl⟩) |
        (go_at_call 22; refine (product_any _ _ (genS k) _ _ [1, expS k] _ (ic_below HC.out ((Below.refl _ _).alloc (Nat.le_refl _) _)) (ir_ic (ir_lit wr wr.heap.size .u8 5 [1, expS k] (Nat.le_refl _) (by simp))).2.2 (inB_two _) (by simp; omega)).mono ?_; rintro e w2 ⟨v2, rfl, hR2, hB2⟩))
      go_roundw
      case rel =>
        have hB3 := (hB.alloc hB.size (.cells (nums .u8 [1, expS k]).toArray 5)).trans (hB2.mono (by have := hB.size; simp; omega))
        exact ⟨k + 1, by omega, by go_num, ir_lower hR2 (by have := hB.size; simp; omega), hB3⟩
      case measure => simp [intOf]; omega
    · obtain rfl : k = m := by omega
      go_wp2
      go_ret2
      exact ⟨_, by rw [HE.out]; rfl, by rw [HE.out]; exact hR, hB⟩
end Go.Proofs.Ytndofhcacmghkaa
