import Derived.Test.YtfkfdaammlffmaaMJ
/-! Tear, Erase. -/
namespace Go.Proofs.Ytfkfdaammlffmaa
set_option linter.unusedVariables false
set_option linter.unusedSimpArgs false
open Go.RowKit Go.Proofs
open Go.Proofs.YtfkfdaammlffmaaW.PrintWords

set_option maxRecDepth 100000 in
theorem tear_any {w : World} {base t g cap : Nat} {kd en : Int} {S : List Sf} {sv lv : Value} (h : MB w base t g cap kd en S sv lv) (hS : S.length ≤ 4096) (hkd : kd = 1 ∨ kd = 2) (hct : CtOk S) (i : Int) :
    Calls Try.prog 47 #[.pointer (some ⟨t, 0, none⟩), .int .i64 i] w fun e w' => e = .returned (.int .i64 (tearS kd en S i).2) ∧ MB w' base t g cap kd en (tearS kd en S i).1 sv lv ∧ But g g w w' := by
  by_cases hi : 0 ≤ i ∧ i < S.length
  · obtain ⟨k, rfl⟩ : ∃ k : Nat, i = k := ⟨i.toNat, by omega⟩
    have hk : k < S.length := by omega
    have HS : Hid (tearS kd en S k = (S.set k (writeS kd en (S.getD k sf0) 2 ByteArray.empty).1, (writeS kd en (S.getD k sf0) 2 ByteArray.empty).2)) := Lib.hid (by unfold tearS; rw [if_neg (by simpa using hi)]; rfl)
    have KH := has_in h hS k hi
    have HK := Lib.hid (And.intro (sf_at hk) (hct.at_ hk))
    clear hi hk hct
    go_enter Try.func47, Try.ntmps47
    go_wp2_with fail
    refine KH.mono ?_
    rintro e w1 ⟨rfl, hb⟩
    have h1 := h.below hb
    clear KH
    go_wp2_with fail
    refine (write_any h1 k (S.getD k sf0) HK.out.1 hkd HK.out.2.1 HK.out.2.2 2 ByteArray.empty).mono ?_
    rintro e w2 ⟨rfl, h2, hbt⟩
    go_wp2
    go_ret
    exact ⟨by rw [HS.out] <;> rfl, by rw [HS.out]; exact h2, (But.of_below hb).trans hbt⟩
  · have HS : Hid (tearS kd en S i = (S, 2)) := Lib.hid (by unfold tearS; rw [if_pos hi])
    have KH := has_out h hS i hi
    clear hi hct
    go_enter Try.func47, Try.ntmps47
    go_wp2_with fail
    refine KH.mono ?_
    rintro e w1 ⟨rfl, hb⟩
    have h1 := h.below hb
    clear KH
    go_wp2
    go_ret
    exact ⟨by rw [HS.out] <;> rfl, by rw [HS.out]; exact h1, But.of_below hb⟩

def eraseS (kd : Int) (S : List Sf) (i : Int) : List Sf × Int :=
  if ¬ (0 ≤ i ∧ i < S.length) then (S, 2) else if kd ≠ 2 then (S, 15) else if (S.getD i.toNat sf0).st = 3 then (S, 16)
  else (S.set i.toNat ⟨0, (S.getD i.toNat sf0).ct, ByteArray.empty, (S.getD i.toNat sf0).er, none⟩, 0)
set_option maxRecDepth 100000 in
theorem erase_any {w : World} {base t g cap : Nat} {kd en : Int} {S : List Sf} {sv lv : Value} (h : MB w base t g cap kd en S sv lv) (hS : S.length ≤ 4096) (i : Int) :
    Calls Try.prog 18 #[.pointer (some ⟨t, 0, none⟩), .int .i64 i] w fun e w' => e = .returned (.int .i64 (eraseS kd S i).2) ∧ MB w' base t g cap kd en (eraseS kd S i).1 sv lv ∧ But g g w w' := by
  by_cases hi : 0 ≤ i ∧ i < S.length
  · obtain ⟨k, rfl⟩ : ∃ k : Nat, i = k := ⟨i.toNat, by omega⟩
    have hk : k < S.length := by omega
    have KH := has_in h hS k hi
    by_cases hkd : kd = 2
    · have k2 : (kd != 2) = false := by simp [hkd]
      by_cases hst : (S.getD k sf0).st = 3
      · have HS : Hid (eraseS kd S k = (S, 16)) := Lib.hid (by unfold eraseS; rw [if_neg (by simpa using hi), if_neg (by simpa using hkd), if_pos (by simpa using hst)])
        clear hi hkd
        go_enter Try.func18, Try.ntmps18
        go_wp2_with fail
        refine KH.mono ?_
        rintro e w1 ⟨rfl, hb⟩
        have h1 := h.below hb
        obtain ⟨c0, c1, c2, -, -⟩ := h1.cells
        obtain ⟨s, hs, d0, d1, d2, d3, d4, df⟩ := sf_cells h1.row k hk
        have e3 : (s.st == 3) = true := by rw [sf_at hk] at hs; injection hs with hs; rw [← hs]; simpa using hst
        clear KH hst hs
        go_wp2
        go_ret
        exact ⟨by rw [HS.out] <;> rfl, by rw [HS.out]; exact h1, But.of_below hb⟩
      · have HS : Hid (eraseS kd S k = (S.set k ⟨0, (S.getD k sf0).ct, ByteArray.empty, (S.getD k sf0).er, none⟩, 0)) := Lib.hid (by unfold eraseS; rw [if_neg (by simpa using hi), if_neg (by simpa using hkd), if_neg (by simpa using hst)]; rfl)
        clear hi hkd
        go_enter Try.func18, Try.ntmps18
        go_wp2_with fail
        refine KH.mono ?_
        rintro e w1 ⟨rfl, hb⟩
        have h1 := h.below hb
        obtain ⟨c0, c1, c2, -, -⟩ := h1.cells
        obtain ⟨s, hs, d0, d1, d2, d3, d4, df⟩ := sf_cells h1.row k hk
        have hse : S.getD k sf0 = s := by rw [sf_at hk] at hs; injection hs with hs
        rw [hse] at hst HS
        have e3 : (s.st == 3) = false := by simpa using hst
        have f0 : w1.frozen? ⟨g, k * 5, none⟩ = false := df 0
        have f2 := df 2
        have f4 := df 4
        have hg : ∀ x : Sf, (S.set k x)[k]? = some x := fun x => by simp [hk]
        have r1 := sf_put h1.row k hk s ⟨0, s.ct, s.raw, s.er, s.ch⟩ hs 0 (.int .i64 0) rfl (by decide) rfl
        have r2 := sf_put r1 k hk ⟨0, s.ct, s.raw, s.er, s.ch⟩ ⟨0, s.ct, ByteArray.empty, s.er, s.ch⟩ (hg _) 2 (.string ByteArray.empty) rfl (by decide) rfl
        rw [List.set_set] at r2
        have r3 := sf_put r2 k hk ⟨0, s.ct, ByteArray.empty, s.er, s.ch⟩ ⟨0, s.ct, ByteArray.empty, s.er, none⟩ (hg _) 4 (.map none) rfl (by decide) rfl
        rw [List.set_set] at r3
        have hby := (((But.refl g g w1).set (p := ⟨g, k * 5 + 0, none⟩) rfl (.int .i64 0)).set (p := ⟨g, k * 5 + 2, none⟩) rfl (.string ByteArray.empty)).set (p := ⟨g, k * 5 + 4, none⟩) rfl (.map none)
        have hblk := (hby.block t h1.lt h.ne h.ne).trans h1.blk
        clear KH hst hs r1 r2 hg hse
        go_wp2
        go_ret
        refine ⟨by rw [HS.out] <;> rfl, ?_, (But.of_below hb).trans hby⟩
        rw [HS.out]
        exact ⟨by rw [List.length_set]; exact hblk, by rw [List.length_set]; exact r3, h.ne, h.bt⟩
    · have k2 : (kd != 2) = true := by simp [hkd]
      have HS : Hid (eraseS kd S k = (S, 15)) := Lib.hid (by unfold eraseS; rw [if_neg (by simpa using hi), if_pos hkd])
      clear hi hkd
      go_enter Try.func18, Try.ntmps18
      go_wp2_with fail
      refine KH.mono ?_
      rintro e w1 ⟨rfl, hb⟩
      have h1 := h.below hb
      obtain ⟨c0, c1, c2, -, -⟩ := h1.cells
      clear KH
      go_wp2
      go_ret
      exact ⟨by rw [HS.out] <;> rfl, by rw [HS.out]; exact h1, But.of_below hb⟩
  · have HS : Hid (eraseS kd S i = (S, 2)) := Lib.hid (by unfold eraseS; rw [if_pos hi])
    have KH := has_out h hS i hi
    clear hi
    go_enter Try.func18, Try.ntmps18
    go_wp2_with fail
    refine KH.mono ?_
    rintro e w1 ⟨rfl, hb⟩
    have h1 := h.below hb
    clear KH
    go_wp2
    go_ret
    exact ⟨by rw [HS.out] <;> rfl, by rw [HS.out]; exact h1, But.of_below hb⟩
end Go.Proofs.Ytfkfdaammlffmaa
