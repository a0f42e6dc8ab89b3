import Derived.Test.YtfkfdaammlffmaaMI
/-! Record, Tear, Erase. -/
namespace Go.Proofs.Ytfkfdaammlffmaa
set_option linter.unusedVariables false
set_option linter.unusedSimpArgs false
open Go.RowKit Go.Proofs
open Go.Proofs.YtfkfdaammlffmaaW.PrintWords

/-- every sector has been recorded a sound number of times -/
def CtOk (S : List Sf) : Prop := ∀ s ∈ S, 0 ≤ s.ct ∧ s.ct ≤ 100000000
theorem sf_at {S : List Sf} {k : Nat} (h : k < S.length) : S[k]? = some (S.getD k sf0) := by
  rw [List.getElem?_eq_getElem h, List.getD_eq_getElem?_getD, List.getElem?_eq_getElem h]; rfl
theorem CtOk.at_ {S : List Sf} (h : CtOk S) {k : Nat} (hk : k < S.length) : 0 ≤ (S.getD k sf0).ct ∧ (S.getD k sf0).ct ≤ 100000000 :=
  h _ (by have := sf_at hk; exact List.mem_of_getElem? this)
def recordS (kd en : Int) (S : List Sf) (i : Int) (raw : ByteArray) : List Sf × Int :=
  if ¬ (0 ≤ i ∧ i < S.length) then (S, 2) else if raw.size ≠ 2352 then (S, 1) else (S.set i.toNat (writeS kd en (S.getD i.toNat sf0) 1 raw).1, (writeS kd en (S.getD i.toNat sf0) 1 raw).2)
def tearS (kd en : Int) (S : List Sf) (i : Int) : List Sf × Int :=
  if ¬ (0 ≤ i ∧ i < S.length) then (S, 2) else (S.set i.toNat (writeS kd en (S.getD i.toNat sf0) 2 ByteArray.empty).1, (writeS kd en (S.getD i.toNat sf0) 2 ByteArray.empty).2)

theorem has_in {w : World} {base t g cap : Nat} {kd en : Int} {S : List Sf} {sv lv : Value} (h : MB w base t g cap kd en S sv lv) (hS : S.length ≤ 4096) (i : Int) (hi : 0 ≤ i ∧ i < S.length) :
    Calls Try.prog 38 #[.pointer (some ⟨t, 0, none⟩), .int .i64 i] w fun e w' => e = .returned (.bool true) ∧ Below w.heap.size w w' := by
  have := has_any h hS i
  rw [show (decide (0 ≤ i) && decide (i < S.length)) = true by simp [hi.1, hi.2]] at this
  exact this
theorem has_out {w : World} {base t g cap : Nat} {kd en : Int} {S : List Sf} {sv lv : Value} (h : MB w base t g cap kd en S sv lv) (hS : S.length ≤ 4096) (i : Int) (hi : ¬ (0 ≤ i ∧ i < S.length)) :
    Calls Try.prog 38 #[.pointer (some ⟨t, 0, none⟩), .int .i64 i] w fun e w' => e = .returned (.bool false) ∧ Below w.heap.size w w' := by
  have := has_any h hS i
  have e1 : (decide (0 ≤ i) && decide (i < S.length)) = false := by
    by_cases h0 : 0 ≤ i
    · have : ¬ i < S.length := fun h => hi ⟨h0, h⟩
      simp [this]
    · simp [h0]
  rw [e1] at this
  exact this
theorem but_of_below {g : Nat} {w w' : World} (h : Below w.heap.size w w') : But g g w w' := But.of_below h

set_option maxRecDepth 100000 in
theorem record_any {w : World} {base t g cap : Nat} {kd en : Int} {S : List Sf} {sv lv : Value} (h : MB w base t g cap kd en S sv lv) (hS : S.length ≤ 4096) (hkd : kd = 1 ∨ kd = 2) (hct : CtOk S) (i : Int) (raw : ByteArray) (hraw : raw.size ≤ 100000) :
    Calls Try.prog 11 #[.pointer (some ⟨t, 0, none⟩), .int .i64 i, .string raw] w fun e w' => e = .returned (.int .i64 (recordS kd en S i raw).2) ∧ MB w' base t g cap kd en (recordS kd en S i raw).1 sv lv ∧ But g g w w' := by
  by_cases hi : 0 ≤ i ∧ i < S.length
  · by_cases hr : raw.size = 2352
    · obtain ⟨k, rfl⟩ : ∃ k : Nat, i = k := ⟨i.toNat, by omega⟩
      have hk : k < S.length := by omega
      have HS : Hid (recordS kd en S k raw = (S.set k (writeS kd en (S.getD k sf0) 1 raw).1, (writeS kd en (S.getD k sf0) 1 raw).2)) := Lib.hid (by unfold recordS; rw [if_neg (by simpa using hi), if_neg (by simpa using hr)]; rfl)
      have KH := has_in h hS k hi
      have hc := hct.at_ hk
      have HK := Lib.hid (And.intro (sf_at hk) hc)
      have n1 : ((raw.size : Int) != 2352) = false := by simp; omega
      clear hi hc hk hct
      go_enter Try.func11, Try.ntmps11
      go_wp2_with fail
      refine KH.mono ?_
      rintro e w1 ⟨rfl, hb⟩
      have h1 := h.below hb
      clear KH
      go_wp2_with fail
      refine (write_any h1 k (S.getD k sf0) HK.out.1 hkd HK.out.2.1 HK.out.2.2 1 raw).mono ?_
      rintro e w2 ⟨rfl, h2, hbt⟩
      go_wp2
      go_ret
      exact ⟨by rw [HS.out] <;> rfl, by rw [HS.out]; exact h2, (But.of_below hb).trans hbt⟩
    · have HS : Hid (recordS kd en S i raw = (S, 1)) := Lib.hid (by unfold recordS; rw [if_neg (by simpa using hi), if_pos hr])
      have KH := has_in h hS i hi
      have n1 : ((raw.size : Int) != 2352) = true := by simp; omega
      clear hi hct
      go_enter Try.func11, Try.ntmps11
      go_wp2_with fail
      refine KH.mono ?_
      rintro e w1 ⟨rfl, hb⟩
      have h1 := h.below hb
      clear KH
      go_wp2
      go_ret
      exact ⟨by rw [HS.out] <;> rfl, by rw [HS.out]; exact h1, But.of_below hb⟩
  · have HS : Hid (recordS kd en S i raw = (S, 2)) := Lib.hid (by unfold recordS; rw [if_pos hi])
    have KH := has_out h hS i hi
    clear hi hct
    go_enter Try.func11, Try.ntmps11
    go_wp2_with fail
    refine KH.mono ?_
    rintro e w1 ⟨rfl, hb⟩
    have h1 := h.below hb
    clear KH
    go_wp2
    go_ret
    exact ⟨by rw [HS.out] <;> rfl, by rw [HS.out]; exact h1, But.of_below hb⟩
end Go.Proofs.Ytfkfdaammlffmaa
