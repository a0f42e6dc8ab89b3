import Derived.Test.YtfkfdaammlffmaaMH
import Derived.Test.YtfkfdaammlffmaaMC
/-! A sector is recorded. -/
namespace Go.Proofs.Ytfkfdaammlffmaa
set_option linter.unusedVariables false
set_option linter.unusedSimpArgs false
open Go.RowKit Go.Proofs
open Go.Proofs.YtfkfdaammlffmaaW.PrintWords

/-- what a recording makes of a sector, and the error -/
def writeS (kd en : Int) (s : Sf) (st : Int) (raw : ByteArray) : Sf × Int :=
  if kd = 1 ∧ s.st ≠ 0 then (s, 8) else if en < s.ct + 1 then (⟨3, s.ct + 1, ByteArray.empty, s.er, none⟩, 16) else (⟨st, s.ct + 1, raw, s.er, none⟩, 0)
theorem set_same {α : Type} (l : List α) (i : Nat) (x : α) (h : l[i]? = some x) : l.set i x = l := by
  apply List.ext_getElem?
  intro j
  rw [List.getElem?_set]
  by_cases e : i = j
  · subst e; rw [if_pos rfl]
    have hlt : i < l.length := (List.getElem?_eq_some_iff.1 h).1
    rw [if_pos hlt, h]
  · rw [if_neg e]

set_option maxRecDepth 100000 in
set_option maxHeartbeats 2000000 in
theorem write_any {w : World} {base t g cap : Nat} {kd en : Int} {S : List Sf} {sv lv : Value} (h : MB w base t g cap kd en S sv lv) (k : Nat) (s : Sf) (hs : S[k]? = some s) (hkd : kd = 1 ∨ kd = 2) (hct : 0 ≤ s.ct) (hct2 : s.ct ≤ 100000000) (st : Int) (raw : ByteArray) :
    Calls Try.prog 39 #[.pointer (some ⟨t, 0, none⟩), .int .i64 k, .int .i64 st, .string raw] w fun e w' => e = .returned (.int .i64 (writeS kd en s st raw).2) ∧ MB w' base t g cap kd en (S.set k (writeS kd en s st raw).1) sv lv ∧ But g g w w' := by
  have hkl : k < S.length := (List.getElem?_eq_some_iff.1 hs).1
  obtain ⟨c0, c1, c2, -, -⟩ := h.cells
  obtain ⟨s2, hs2, d0, d1, d2, d3, d4, df⟩ := sf_cells h.row k hkl
  rw [hs] at hs2
  injection hs2 with hs2
  subst hs2
  have f0 : w.frozen? ⟨g, k * 5, none⟩ = false := df 0
  have f1 := df 1
  have f2 := df 2
  have f4 := df 4
  have k0 : (kd == 0) = false := by rcases hkd with rfl | rfl <;> rfl
  have hz : S.length ≤ 9223372036854775807 := by
    have := (Kd.R_reads' h.row).2.2
    have := Kd.C_max this
    simpa using this
  by_cases hst : kd = 1 ∧ s.st ≠ 0
  · have HS : Hid (writeS kd en s st raw = (s, 8)) := Lib.hid (by unfold writeS; rw [if_pos hst])
    have k1 : (kd == 1) = true := by simp [hst.1]
    have k2 : (s.st != 0) = true := by simp [hst.2]
    clear hst hkd
    go_enter Try.func39, Try.ntmps39
    go_wp2
    go_ret
    exact ⟨by rw [HS.out] <;> rfl, by rw [HS.out, set_same _ _ _ hs]; exact h, But.refl _ _ _⟩
  · have hor : (kd == 1) = false ∨ ((kd == 1) = true ∧ (s.st != 0) = false) := by
      by_cases e : kd = 1
      · right
        refine ⟨by simp [e], ?_⟩
        have : s.st = 0 := Classical.not_not.1 (fun h => hst ⟨e, h⟩)
        simp [this]
      · left; simpa using e
    have hnk : ¬ (kd = 1 ∧ s.st ≠ 0) := hst
    have hsz : ∀ x : Sf, (S.set k x).length = S.length := fun x => by simp
    have hg : ∀ x : Sf, (S.set k x)[k]? = some x := fun x => by simp [hkl]
    have r1 := sf_put h.row k hkl s ⟨s.st, s.ct + 1, s.raw, s.er, s.ch⟩ hs 1 (.int .i64 (s.ct + 1)) rfl (by decide) rfl
    have r2 := sf_put r1 k hkl ⟨s.st, s.ct + 1, s.raw, s.er, s.ch⟩ ⟨s.st, s.ct + 1, s.raw, s.er, none⟩ (hg _) 4 (.map none) rfl (by decide) rfl
    rw [List.set_set] at r2
    have r3 := sf_put r2 k hkl ⟨s.st, s.ct + 1, s.raw, s.er, none⟩ ⟨st, s.ct + 1, s.raw, s.er, none⟩ (hg _) 0 (.int .i64 st) rfl (by decide) rfl
    rw [List.set_set] at r3
    have r4 := sf_put r3 k hkl ⟨st, s.ct + 1, s.raw, s.er, none⟩ ⟨st, s.ct + 1, raw, s.er, none⟩ (hg _) 2 (.string raw) rfl (by decide) rfl
    rw [List.set_set] at r4
    obtain ⟨y, hy⟩ : ∃ y, (((w.setCell ⟨g, k * 5 + 1, none⟩ (.int .i64 (s.ct + 1))).setCell ⟨g, k * 5 + 4, none⟩ (.map none)).setCell ⟨g, k * 5, none⟩ (.int .i64 st)).setCell ⟨g, k * 5 + 2, none⟩ (.string raw) = y := ⟨_, rfl⟩
    have r4' : SfR y base (.slice (some ⟨g, 0, none⟩) S.length cap) (S.set k ⟨st, s.ct + 1, raw, s.er, none⟩) := by rw [← hy]; exact r4
    have hby : But g g w y := by rw [← hy]; exact ((((But.refl g g w).set rfl _).set rfl _).set rfl _).set rfl _
    have hblk := (hby.block t h.lt h.ne h.ne).trans h.blk
    have hMy : MB y base t g cap kd en (S.set k ⟨st, s.ct + 1, raw, s.er, none⟩) sv lv := ⟨by rw [hsz]; exact hblk, by rw [hsz]; exact r4', h.ne, h.bt⟩
    obtain ⟨s3, hs3, e0, e1, e2, e3, e4, ef⟩ := sf_cells r4' k hkl
    rw [hg] at hs3
    injection hs3 with hs3
    subst hs3
    simp only at e0 e1 e2 e3 e4
    have HMY := Lib.hid hMy
    have t1 : y.cell? ⟨t, 1, none⟩ = some (.int .i64 en) := by simp [World.cell?, hblk]
    have fy0 : y.frozen? ⟨g, k * 5, none⟩ = false := ef 0
    have fy2 := ef 2
    have HY := Lib.hid hy
    clear r1 r2 r3 r4 hy hMy hsz hblk hst hkd
    by_cases hen : en < s.ct + 1
    · have HS : Hid (writeS kd en s st raw = (⟨3, s.ct + 1, ByteArray.empty, s.er, none⟩, 16)) := Lib.hid (by unfold writeS; rw [if_neg hnk, if_pos hen])
      have dg : decide (en < s.ct + 1) = true := by simpa using hen
      clear hnk hg
      rcases hor with k1 | ⟨k1, k2⟩
      · go_enter Try.func39, Try.ntmps39
        go_wp2
        rw [HY.out]
        go_quiet (fail)
        go_wp2
        go_ret
        have hMq := HMY.out.below (below_drewN (Below.refl _ _) nq)
        have r4q : SfR (y.drewN nq) base (.slice (some ⟨g, 0, none⟩) S.length cap) (S.set k ⟨st, s.ct + 1, raw, s.er, none⟩) := Kd.R_drewN r4' nq
        have p1 := sf_put r4q k hkl ⟨st, s.ct + 1, raw, s.er, none⟩ ⟨3, s.ct + 1, raw, s.er, none⟩ (by simp [hkl]) 0 (.int .i64 3) rfl (by decide) rfl
        have p2 := sf_put p1 k hkl ⟨3, s.ct + 1, raw, s.er, none⟩ ⟨3, s.ct + 1, ByteArray.empty, s.er, none⟩ (by simp [hkl]) 2 (.string ByteArray.empty) rfl (by decide) rfl
        rw [List.set_set, List.set_set] at p2
        refine ⟨by rw [HS.out] <;> rfl, ?_, ((hby.low (below_drewN (Below.refl _ _) _)).set rfl _).set rfl _⟩
        rw [HS.out]
        have hb := hMq.blk
        rw [List.length_set] at hb
        have hne : t ≠ g := h.ne
        refine ⟨?_, ?_, hne, h.bt⟩
        · rw [List.length_set]
          exact ((Below.heap_setCell _ _ _ _ hne).trans (Below.heap_setCell _ _ _ _ hne)).trans hb
        · rw [List.length_set]; exact p2
      · go_enter Try.func39, Try.ntmps39
        go_wp2
        rw [HY.out]
        go_quiet (fail)
        go_wp2
        go_ret
        have hMq := HMY.out.below (below_drewN (Below.refl _ _) nq)
        have r4q : SfR (y.drewN nq) base (.slice (some ⟨g, 0, none⟩) S.length cap) (S.set k ⟨st, s.ct + 1, raw, s.er, none⟩) := Kd.R_drewN r4' nq
        have p1 := sf_put r4q k hkl ⟨st, s.ct + 1, raw, s.er, none⟩ ⟨3, s.ct + 1, raw, s.er, none⟩ (by simp [hkl]) 0 (.int .i64 3) rfl (by decide) rfl
        have p2 := sf_put p1 k hkl ⟨3, s.ct + 1, raw, s.er, none⟩ ⟨3, s.ct + 1, ByteArray.empty, s.er, none⟩ (by simp [hkl]) 2 (.string ByteArray.empty) rfl (by decide) rfl
        rw [List.set_set, List.set_set] at p2
        refine ⟨by rw [HS.out] <;> rfl, ?_, ((hby.low (below_drewN (Below.refl _ _) _)).set rfl _).set rfl _⟩
        rw [HS.out]
        have hb := hMq.blk
        rw [List.length_set] at hb
        have hne : t ≠ g := h.ne
        refine ⟨?_, ?_, hne, h.bt⟩
        · rw [List.length_set]
          exact ((Below.heap_setCell _ _ _ _ hne).trans (Below.heap_setCell _ _ _ _ hne)).trans hb
        · rw [List.length_set]; exact p2
    · have HS : Hid (writeS kd en s st raw = (⟨st, s.ct + 1, raw, s.er, none⟩, 0)) := Lib.hid (by unfold writeS; rw [if_neg hnk, if_neg hen])
      have dg : decide (en < s.ct + 1) = false := by simpa using hen
      clear hnk hg
      rcases hor with k1 | ⟨k1, k2⟩
      · go_enter Try.func39, Try.ntmps39
        go_wp2
        rw [HY.out]
        go_quiet (fail)
        go_wp2
        go_ret
        exact ⟨by rw [HS.out] <;> rfl, by rw [HS.out]; exact HMY.out.below (below_drewN (Below.refl _ _) _), hby.low (below_drewN (Below.refl _ _) _)⟩
      · go_enter Try.func39, Try.ntmps39
        go_wp2
        rw [HY.out]
        go_quiet (fail)
        go_wp2
        go_ret
        exact ⟨by rw [HS.out] <;> rfl, by rw [HS.out]; exact HMY.out.below (below_drewN (Below.refl _ _) _), hby.low (below_drewN (Below.refl _ _) _)⟩
end Go.Proofs.Ytfkfdaammlffmaa
