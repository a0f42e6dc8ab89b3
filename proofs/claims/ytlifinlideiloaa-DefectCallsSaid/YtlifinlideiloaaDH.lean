import Derived.Test.YtlifinlideiloaaDG
/-! The example. -/
namespace Go.Proofs.Ytlifinlideiloaa
set_option linter.unusedVariables false
set_option linter.unusedSimpArgs false
open Go.RowKit Go.Proofs
open Go.Proofs.YtlifinlideiloaaW.PrintWords

theorem rd_mem {P : List Int} {k : Nat} (h : k < P.length) : rd P k ∈ P := by
  unfold rd
  rw [Int.toNat_natCast, List.getD_eq_getElem?_getD, List.getElem?_eq_getElem h]
  exact List.getElem_mem h
theorem rd_get {P : List Int} {k : Nat} (h : k < P.length) : rd P k = P[k] := by
  unfold rd
  rw [Int.toNat_natCast, List.getD_eq_getElem?_getD, List.getElem?_eq_getElem h]; rfl
theorem sortS_of_sorted {l : List Int} (h : l.Pairwise (· ≤ ·)) : sortS l = l := sorted_unique (sortS_perm _) (sortS_sorted _) h
/-- a table as New makes it -/
theorem WT.new {B S : Int} {P : List Int} (h : Valid B S P) : WT ⟨B.toNat, S.toNat, 0, P, []⟩ := by
  obtain ⟨h1, h2, h3, h4, h5, h6⟩ := h
  refine ⟨show 1 ≤ B.toNat by omega, show B.toNat ≤ 4096 by omega, h5, show S.toNat ≤ 64 by omega, Nat.zero_le _, ?_, ?_, List.Pairwise.nil, fun x hx => by simp at hx, fun x hx => by simp at hx, fun x hx => by simp at hx, Nat.le_refl _⟩
  · have hstep : ∀ k, k + 1 < P.length → rd P k < rd P ((k + 1 : Nat) : Int) := by
      intro k hk
      have := (h6 (k + 1) hk).2.2 (by omega)
      rwa [show (((k + 1 : Nat) : Int) - 1) = (k : Int) by omega] at this
    have hall : ∀ j, j < P.length → ∀ i, i < j → rd P i < rd P j := by
      intro j
      induction j with
      | zero => intro _ i hi; omega
      | succ j ih =>
        intro hj i hi
        have h1 := hstep j hj
        by_cases e : i = j
        · subst e; exact h1
        · exact Int.lt_trans (ih (by omega) i (by omega)) h1
    rw [List.pairwise_iff_getElem]
    intro i j hi hj hij
    have := hall j hj i hij
    rwa [rd_get hi, rd_get hj] at this
  · intro p hp
    obtain ⟨k, hk, rfl⟩ := List.getElem_of_mem hp
    have := h6 k hk
    rw [← rd_get hk]
    show 0 ≤ rd P k ∧ rd P k < ((B.toNat : Nat) : Int) + P.length
    have hB : ((B.toNat : Nat) : Int) = B := by omega
    rw [hB]
    exact ⟨this.1, this.2.1⟩

theorem valid_ex : Valid 4 2 [1] := by
  refine ⟨by omega, by omega, by omega, by omega, by simp, fun k hk => ?_⟩
  obtain rfl : k = 0 := by simp at hk; omega
  exact ⟨by simp [rd], by simp [rd], fun h => by omega⟩

set_option maxRecDepth 100000 in
set_option maxHeartbeats 1000000 in
theorem awake_any (w : World) : Calls Try.prog 9 #[] w fun e w' => e = .returned (.bool true) ∧ Below w.heap.size w w' := by
  have hw0 : WT ⟨4, 2, 0, [1], []⟩ := WT.new valid_ex
  have hw1 : WT ⟨4, 2, 1, [1], [(1, 0)]⟩ := hw0.put (b := 1) (by simp) (by simp)
  have HW0 := Lib.hid hw0
  have HW1 := Lib.hid hw1
  clear hw0 hw1
  have HP : Hid (physS ⟨4, 2, 0, [1], []⟩ 1 = (2, 0)) := Lib.hid (by decide)
  have HR : Hid (replS ⟨4, 2, 0, [1], []⟩ 1 = (⟨4, 2, 1, [1], [(1, 0)]⟩, 5, 0)) := Lib.hid (by simp [replS, putT, putL, insL, strL])
  have HB : Hid (badS ⟨4, 2, 1, [1], [(1, 0)]⟩ = [1, 2]) := Lib.hid (by unfold badS; rw [show rawBad ⟨4, 2, 1, [1], [(1, 0)]⟩ = [1, 2] by decide +kernel]; exact sortS_of_sorted (by simp))
  go_enter Try.func9, Try.ntmps9
  go_wp2_with fail
  have hlit := ir_ic (ir_lit w w.heap.size .i64 3 [1] (Nat.le_refl _) (by simp))
  refine (new_any 4 2 _ 1 1 [1] _ hlit.2.2 rfl).mono ?_
  clear hlit
  rintro e w1 (⟨hv, -, -⟩ | ⟨-, t, m, A, c, rfl, h1, ht, hm, hb1⟩)
  · exact absurd valid_ex hv
  replace h1 : TB w1 t m A c ⟨4, 2, 0, [1], []⟩ := h1
  have hB : Below w.heap.size w w1 := ((Below.refl _ _).alloc (Nat.le_refl _) _).trans (hb1.mono (by simp))
  have ht' : w.heap.size ≤ t := by simp at ht; omega
  have hm' : w.heap.size ≤ m := by simp at hm; omega
  clear hb1 ht hm
  go_wp2_with fail
  refine (sectors_any t m A c _ _ h1 (by simp) (by simp) (by simp)).mono ?_
  rintro e w2 ⟨rfl, q, rfl⟩
  replace h1 := h1.drewN q
  replace hB := below_drewN hB q
  generalize w1.drewN q = w2 at h1 hB ⊢
  go_wp2_with fail
  refine (phys_any t m A c _ _ h1 (by simp) (by simp) HW0.out.val64 1).mono ?_
  rw [HP.out]
  rintro e w3 ⟨rfl, q, rfl⟩
  replace h1 := h1.drewN q
  replace hB := below_drewN hB q
  generalize w2.drewN q = w3 at h1 hB ⊢
  go_wp2_with fail
  refine (repl_any t m A c _ _ h1 (by simp) (by simp) (by simp) (by simp) HW0.out.val64 1).mono ?_
  rw [HR.out]
  rintro e w4 ⟨rfl, h4, hbt⟩
  replace hB := But.below hB hbt hB.size ht' hm'
  clear h1 hbt
  go_wp2_with fail
  refine (bad_any t m A c _ _ h4 HW1.out).mono ?_
  rw [HB.out]
  rintro e w5 ⟨v, rfl, hR, hb5⟩
  replace hB := below_step hB hb5
  obtain ⟨A5, c5, rfl, hc5⟩ := ir_slice hR (n := 2) rfl
  have HC5 := Lib.hid (ic_below (ir_ic hR).2.2 ((Below.refl w5.heap.size w5).alloc (Nat.le_refl _) (.cells (nums .i64 [1, 2]).toArray 3)))
  have HL := Lib.hid (ir_ic (ir_lit w5 w5.heap.size .i64 3 [1, 2] (Nat.le_refl _) (by simp))).2.2
  clear hR hb5 h4
  go_wp2_with fail
  refine (equal_any _ _ 2 _ 2 _ [1, 2] [1, 2] _ HC5.out HL.out rfl rfl).mono ?_
  rintro e w6 ⟨rfl, q, rfl⟩
  go_wp2
  go_ret
  exact ⟨rfl, below_drewN (hB.alloc hB.size _) q⟩
end Go.Proofs.Ytlifinlideiloaa
