import Derived.Test.YtfkfdaammlffmaaMJ
/-! Count, Kind, Sectors. -/
namespace Go.Proofs.Ytfkfdaammlffmaa
set_option linter.unusedVariables false
set_option linter.unusedSimpArgs false
open Go.RowKit Go.Proofs
open Go.Proofs.YtfkfdaammlffmaaW.PrintWords

def countS (S : List Sf) (i : Int) : Int × Int := if 0 ≤ i ∧ i < S.length then ((S.getD i.toNat sf0).ct, 0) else (0, 2)
theorem count_any {w : World} {base t g cap : Nat} {kd en : Int} {S : List Sf} {sv lv : Value} (h : MB w base t g cap kd en S sv lv) (hS : S.length ≤ 4096) (i : Int) :
    Calls Try.prog 31 #[.pointer (some ⟨t, 0, none⟩), .int .i64 i] w fun e w' => e = .returned (.tuple #[.int .i64 (countS S i).1, .int .i64 (countS S i).2]) ∧ Below w.heap.size w w' := by
  by_cases hi : 0 ≤ i ∧ i < S.length
  · have e1 : (decide (0 ≤ i) && decide (i < S.length)) = true := by simp [hi.1, hi.2]
    have KH := has_any h hS i
    rw [e1] at KH
    have hi0 := hi.1
    have hi1 := hi.2
    obtain ⟨k, rfl⟩ : ∃ k : Nat, i = k := ⟨i.toNat, by omega⟩
    have HS : Hid (countS S k = ((S.getD k sf0).ct, 0)) := Lib.hid (by unfold countS; rw [if_pos hi]; rfl)
    clear hi e1
    go_enter Try.func31, Try.ntmps31
    go_wp2_with fail
    refine KH.mono ?_
    rintro e w1 ⟨rfl, hb⟩
    have h1 := h.below hb
    obtain ⟨c0, c1, c2, -, -⟩ := h1.cells
    obtain ⟨s, hs, d0, d1, d2, d3, d4, df⟩ := sf_cells h1.row k (by omega)
    have HST : Hid ((S.getD k sf0).ct = s.ct) := Lib.hid (by rw [List.getD_eq_getElem?_getD, hs]; rfl)
    clear KH h1 hs
    go_wp2
    go_ret2
    exact ⟨by rw [HS.out, HST.out] <;> rfl, hb⟩
  · have e1 : (decide (0 ≤ i) && decide (i < S.length)) = false := by
      by_cases h0 : 0 ≤ i
      · have : ¬ i < S.length := fun h => hi ⟨h0, h⟩
        simp [this]
      · simp [h0]
    have KH := has_any h hS i
    rw [e1] at KH
    have HS : Hid (countS S i = (0, 2)) := Lib.hid (by unfold countS; rw [if_neg hi])
    clear hi e1
    go_enter Try.func31, Try.ntmps31
    go_wp2_with fail
    refine KH.mono ?_
    rintro e w1 ⟨rfl, hb⟩
    go_wp2
    go_ret2
    exact ⟨by rw [HS.out] <;> rfl, hb⟩

theorem kind_any {w : World} {base t g cap : Nat} {kd en : Int} {S : List Sf} {sv lv : Value} (h : MB w base t g cap kd en S sv lv) :
    Calls Try.prog 53 #[.pointer (some ⟨t, 0, none⟩)] w fun e w' => e = .returned (.int .i64 kd) ∧ w = w' := by
  obtain ⟨c0, -, -, -, -⟩ := h.cells
  go_enter Try.func53, Try.ntmps53
  go_wp2
  go_ret
  exact ⟨rfl, rfl⟩
theorem sectors_any {w : World} {base t g cap : Nat} {kd en : Int} {S : List Sf} {sv lv : Value} (h : MB w base t g cap kd en S sv lv) :
    Calls Try.prog 54 #[.pointer (some ⟨t, 0, none⟩)] w fun e w' => e = .returned (.int .i64 S.length) ∧ w = w' := by
  obtain ⟨-, -, c2, -, -⟩ := h.cells
  go_enter Try.func54, Try.ntmps54
  go_wp2
  go_ret
  exact ⟨rfl, rfl⟩
end Go.Proofs.Ytfkfdaammlffmaa
