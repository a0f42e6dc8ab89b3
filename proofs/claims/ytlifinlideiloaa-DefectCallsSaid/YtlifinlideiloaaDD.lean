import Derived.Test.YtlifinlideiloaaDC
/-! Replacing a block; the block of a sector. -/
namespace Go.Proofs.Ytlifinlideiloaa
set_option linter.unusedVariables false
set_option linter.unusedSimpArgs false
open Go.RowKit
open Go.Proofs.YtlifinlideiloaaW.PrintWords

def putT (T : Tab) (b : Int) : Tab := ⟨T.B, T.S, T.u + 1, T.P, putL b T.u T.M⟩
/-- the table behind a replacement, the new sector, the error -/
def replS (T : Tab) (b : Int) : Tab × Int × Int :=
  if ¬ (0 ≤ b ∧ b < T.B) then (T, 0, 2) else if T.u = T.S then (T, 0, 12) else (putT T b, (T.B : Int) + T.P.length + T.u, 0)

theorem TB.store {w w1 : World} {t m : Nat} {A : Option Addr} {c : Nat} {T : Tab} (h : TB w t m A c T) (M' : PL) (h1 : IMi w1 m (T.u + 1) M') (hg : w.grownBy w1 (some m)) :
    TB (w1.setCell ⟨t, 2, none⟩ (.int .i64 ((T.u : Int) + 1))) t m A c ⟨T.B, T.S, T.u + 1, T.P, M'⟩ := by
  have hb : w1.heap[t]? = some (.cells #[.int .i64 T.B, .int .i64 T.S, .int .i64 T.u, .slice A T.P.length c, .map (some m)] 57 (0, 0)) := by
    rw [← h.blk]; exact hg.block t h.lt (by intro e; injection e with e; exact h.ne e)
  refine ⟨?_, ?_, h.cap, ?_, h.ne, ?_⟩
  · simp [World.setCell, Array.getElem?_modify, hb]
  · refine ic_of_block (w := w) h.row (fun a e => ?_)
    have := h.off a e
    rw [Below.heap_setCell _ _ _ _ (show a.block ≠ t from this.1)]
    exact hg.block a.block this.2.2 (by intro e; injection e with e; exact this.2.1 e)
  · intro a e
    have := h.off a e
    exact ⟨this.1, this.2.1, by have := hg.size; simp; omega⟩
  · exact im_of_block h1 (Below.heap_setCell _ _ _ _ (show m ≠ t from fun e => h.ne e.symm))

set_option maxRecDepth 100000 in
theorem repl_any (t m : Nat) (A : Option Addr) (c : Nat) (T : Tab) (w : World) (h : TB w t m A c T) (hB : T.B ≤ 4096) (hP : T.P.length ≤ 256) (hS : T.S ≤ 64) (hu : T.u ≤ T.S) (hM : ∀ x ∈ T.M, 0 ≤ x.2 ∧ x.2 ≤ 64) (b : Int) :
    Calls Try.prog 11 #[.pointer (some ⟨t, 0, none⟩), .int .i64 b] w fun e w' => e = .returned (.tuple #[.int .i64 (replS T b).2.1, .int .i64 (replS T b).2.2]) ∧ TB w' t m A c (replS T b).1 ∧ But t m w w' := by
  by_cases hb : 0 ≤ b ∧ b < T.B
  · have e1 : (decide (0 ≤ b) && decide (b < T.B)) = true := by simp [hb.1, hb.2]
    have hb1 := hb.1
    have hb2 := hb.2
    obtain ⟨-, c1, c2, -, c4⟩ := h.cells
    by_cases he : T.u = T.S
    · have HS : Hid (replS T b = (T, 0, 12)) := Lib.hid (by unfold replS; rw [if_neg (by simpa using hb), if_pos he])
      have e2 : (((T.u : Nat) : Int) == T.S) = true := by simp [he]
      clear hb he
      go_enter Try.func11, Try.ntmps11
      go_wp2_with (first | (go_at_call 29; refine (has_any t m A c T _ h b).mono ?_; rintro e w' ⟨rfl, rfl⟩))
      go_quiet (fail)
      go_wp2
      go_ret2
      exact ⟨by rw [HS.out]; rfl, by rw [HS.out]; exact h.drewN _, But.of_below (below_drewN (Below.refl _ _) _)⟩
    · have HS : Hid (replS T b = (putT T b, (T.B : Int) + T.P.length + T.u, 0)) := Lib.hid (by unfold replS; rw [if_neg (by simpa using hb), if_neg he])
      have e2 : (((T.u : Nat) : Int) == T.S) = false := by simp; omega
      have HPS : Hid (physS (putT T b) b = ((T.B : Int) + T.P.length + T.u, 0)) := Lib.hid (by unfold physS putT; rw [if_pos hb]; simp only [look_putL]; simp)
      have hM' : ∀ x ∈ (putT T b).M, 0 ≤ x.2 ∧ x.2 ≤ 64 := by
        intro x hx
        rcases mem_putL.1 hx with rfl | hx
        · simp; omega
        · exact hM x hx.1
      have hult : T.u < maxLen := by unfold maxLen; omega
      have HM' := Lib.hid hM'
      clear hb he hM'
      go_enter Try.func11, Try.ntmps11
      go_wp2_with (first | (go_at_call 29; refine (has_any t m A c T _ h b).mono ?_; rintro e w' ⟨rfl, rfl⟩))
      go_quiet (fail)
      go_wp2
      have h2 := h.drewN nq
      have hB0 : But t m w (w.drewN nq) := But.of_below (below_drewN (Below.refl _ _) _)
      clear c1 c2 c4
      generalize w.drewN nq = w0 at h2 hB0 ⊢
      obtain ⟨-, -, c2, -, c4⟩ := h2.cells
      go_still_tail 9, (by kernel_rfl)
      change wpList _ _ _ _ _ w0.drew
      go_wp2_with (
        at_mapUpdate
        refine im_put _ rfl _ _ _ 36 rfl 3 3 .i64 Try.underlying3 Try.underlying36 Try.underlying3 m T.u T.M rfl (World.ownsMap.drew h2.map) hult b T.u rfl rfl (wf_i64 (by omega) (by omega)) (wf_i64 (by omega) (by omega)) ?_
        intro w1 hm1 hg1
        have h3 := TB.store (h2.below (below_drew (Below.refl _ _))) _ hm1 hg1
        have hb1' : w1.heap[t]? = some (.cells #[.int .i64 T.B, .int .i64 T.S, .int .i64 T.u, .slice A T.P.length c, .map (some m)] 57 (0, 0)) := by
          rw [← h2.blk]; exact hg1.block t h2.lt (by intro e; injection e with e; exact h2.ne e)
        have d2 : w1.cell? ⟨t, 2, none⟩ = some (.int .i64 T.u) := by simp [World.cell?, hb1']
        have f2 : w1.frozen? ⟨t, 2, none⟩ = false := by simp [World.frozen?, hb1']
        have hB1 : But t m w w1 := (hB0.drew).trans (But.of_grown hg1 (fun k e => by injection e with e; exact .inr e.symm))
        have hB2 : But t m w (w1.setCell ⟨t, 2, none⟩ (.int .i64 ((T.u : Int) + 1))) := hB1.set rfl _
        clear hb1' hB1 hg1 hm1 hB0 c2 c4
        replace h3 : TB (w1.setCell ⟨t, 2, none⟩ (.int .i64 ((T.u : Int) + 1))) t m A c (putT T b) := h3)
      go_wp2_with ((go_at_call 13; refine (phys_any t m A c (putT T b) _ h3 hB hP HM'.out b).mono ?_; rw [HPS.out]; rintro e w' ⟨rfl, q, rfl⟩))
      go_ret2
      exact ⟨by rw [HS.out]; rfl, by rw [HS.out]; exact h3.drewN q, hB2.trans (But.of_below (below_drewN (Below.refl _ _) _))⟩
  · have HS : Hid (replS T b = (T, 0, 2)) := Lib.hid (by unfold replS; rw [if_pos hb])
    have e1 : (decide (0 ≤ b) && decide (b < T.B)) = false := by
      by_cases h0 : 0 ≤ b
      · have : ¬ b < T.B := fun h => hb ⟨h0, h⟩
        simp [this]
      · simp [h0]
    clear hb
    go_enter Try.func11, Try.ntmps11
    go_wp2_with (first | (go_at_call 29; refine (has_any t m A c T _ h b).mono ?_; rintro e w' ⟨rfl, rfl⟩))
    go_ret2
    exact ⟨by rw [HS.out]; rfl, by rw [HS.out]; exact h, But.refl _ _ _⟩
end Go.Proofs.Ytlifinlideiloaa
