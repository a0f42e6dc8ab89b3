import Derived.Test.YtfkfdaammlffmaaMG
/-! The medium: New, and what reads or records a sector. -/
namespace Go.Proofs.Ytfkfdaammlffmaa
set_option linter.unusedVariables false
set_option linter.unusedSimpArgs false
open Go.RowKit Go.Proofs
open Go.Proofs.YtfkfdaammlffmaaW.PrintWords

/-- a medium at block t, its sectors at block g -/
structure MB (w : World) (base t g cap : Nat) (kd en : Int) (S : List Sf) (sv lv : Value) : Prop where
  blk : w.heap[t]? = some (.cells #[.int .i64 kd, .int .i64 en, .slice (some ⟨g, 0, none⟩) S.length cap, sv, lv] 88 (0, 0))
  row : SfR w base (.slice (some ⟨g, 0, none⟩) S.length cap) S
  ne : t ≠ g
  bt : base ≤ t
theorem MB.lt {w : World} {base t g cap : Nat} {kd en : Int} {S : List Sf} {sv lv : Value} (h : MB w base t g cap kd en S sv lv) : t < w.heap.size := (Array.getElem?_eq_some_iff.1 h.blk).1
theorem MB.below {w w' : World} {base t g cap : Nat} {kd en : Int} {S : List Sf} {sv lv : Value} (h : MB w base t g cap kd en S sv lv) (hb : Below w.heap.size w w') : MB w' base t g cap kd en S sv lv :=
  ⟨(hb.block t h.lt).trans h.blk, Kd.R_below h.row hb, h.ne, h.bt⟩
theorem MB.cells {w : World} {base t g cap : Nat} {kd en : Int} {S : List Sf} {sv lv : Value} (h : MB w base t g cap kd en S sv lv) :
    w.cell? ⟨t, 0, none⟩ = some (.int .i64 kd) ∧ w.cell? ⟨t, 1, none⟩ = some (.int .i64 en) ∧ w.cell? ⟨t, 2, none⟩ = some (.slice (some ⟨g, 0, none⟩) S.length cap) ∧ w.cell? ⟨t, 3, none⟩ = some sv ∧ w.cell? ⟨t, 4, none⟩ = some lv := by
  simp [World.cell?, h.blk]
theorem below_drewN {B : Nat} {a w : World} (h : Below B a w) (q : Nat) : Below B a (w.drewN q) := pw_below_drewN h q
theorem drawn_below {w w' : World} (h : ∃ q, w' = w.drewN q) : Below w.heap.size w w' := by
  obtain ⟨q, rfl⟩ := h
  exact below_drewN (Below.refl _ _) q

theorem has_any {w : World} {base t g cap : Nat} {kd en : Int} {S : List Sf} {sv lv : Value} (h : MB w base t g cap kd en S sv lv) (hS : S.length ≤ 4096) (i : Int) :
    Calls Try.prog 38 #[.pointer (some ⟨t, 0, none⟩), .int .i64 i] w fun e w' => e = .returned (.bool (decide (0 ≤ i) && decide (i < S.length))) ∧ Below w.heap.size w w' := by
  obtain ⟨c0, c1, c2, -, -⟩ := h.cells
  by_cases h0 : 0 ≤ i
  · go_enter Try.func38, Try.ntmps38
    go_wp2
    go_ret
    exact ⟨by simp [h0], Below.refl _ _⟩
  · have d0 : decide (0 ≤ i) = false := by simpa using h0
    go_enter Try.func38, Try.ntmps38
    go_wp2
    go_ret
    exact ⟨rfl, Below.refl _ _⟩

def stateS (S : List Sf) (i : Int) : Int × Int := if 0 ≤ i ∧ i < S.length then ((S.getD i.toNat sf0).st, 0) else (0, 2)
theorem state_any {w : World} {base t g cap : Nat} {kd en : Int} {S : List Sf} {sv lv : Value} (h : MB w base t g cap kd en S sv lv) (hS : S.length ≤ 4096) (i : Int) :
    Calls Try.prog 19 #[.pointer (some ⟨t, 0, none⟩), .int .i64 i] w fun e w' => e = .returned (.tuple #[.int .i64 (stateS S i).1, .int .i64 (stateS S i).2]) ∧ Below w.heap.size w w' := by
  by_cases hi : 0 ≤ i ∧ i < S.length
  · have e1 : (decide (0 ≤ i) && decide (i < S.length)) = true := by simp [hi.1, hi.2]
    have KH := has_any h hS i
    rw [e1] at KH
    have hi0 := hi.1
    have hi1 := hi.2
    obtain ⟨k, rfl⟩ : ∃ k : Nat, i = k := ⟨i.toNat, by omega⟩
    have HS : Hid (stateS S k = ((S.getD k sf0).st, 0)) := Lib.hid (by unfold stateS; rw [if_pos hi]; rfl)
    clear hi e1
    go_enter Try.func19, Try.ntmps19
    go_wp2_with fail
    refine KH.mono ?_
    rintro e w1 ⟨rfl, hb⟩
    have h1 := h.below hb
    obtain ⟨c0, c1, c2, -, -⟩ := h1.cells
    obtain ⟨s, hs, d0, d1, d2, d3, d4, df⟩ := sf_cells h1.row k (by omega)
    have HST : Hid ((S.getD k sf0).st = s.st) := Lib.hid (by rw [List.getD_eq_getElem?_getD, hs]; rfl)
    clear KH h1 hs
    go_wp2
    go_ret2
    exact ⟨by rw [HS.out, HST.out] <;> rfl, hb⟩
  · have e1 : (decide (0 ≤ i) && decide (i < S.length)) = false := by
      by_cases h0 : 0 ≤ i
      · have : ¬ i < S.length := fun h => hi ⟨h0, h⟩
        simp [this]
      · simp [h0]
    have KH := has_any h hS i
    rw [e1] at KH
    have HS : Hid (stateS S i = (0, 2)) := Lib.hid (by unfold stateS; rw [if_neg hi])
    clear hi e1
    go_enter Try.func19, Try.ntmps19
    go_wp2_with fail
    refine KH.mono ?_
    rintro e w1 ⟨rfl, hb⟩
    go_wp2
    go_ret2
    exact ⟨by rw [HS.out] <;> rfl, hb⟩

def ValidM (kd n en : Int) : Prop := (kd = 1 ∨ kd = 2) ∧ 1 ≤ n ∧ n ≤ 4096 ∧ 1 ≤ en ∧ en ≤ 1048576
/-- New, at numbers that it takes -/
theorem new_any (kd n en : Int) (w : World) (hv : ValidM kd n en) :
    Calls Try.prog 10 #[.int .i64 kd, .int .i64 n, .int .i64 en] w fun e w' => ∃ t g cap, e = .returned (.tuple #[.pointer (some ⟨t, 0, none⟩), .int .i64 0]) ∧ MB w' w.heap.size t g cap kd en (List.replicate n.toNat sf0) (.slice none 0 0) (.map none) ∧ Below w.heap.size w w' := by
  obtain ⟨hk, h1, h2, h3, h4⟩ := hv
  rcases hk with rfl | rfl
  · go_enter Try.func10, Try.ntmps10
    go_wp2_with (at_make; refine Kd.R_make KdT (w0 := w) w.heap.size 101 rfl rfl 85 _ _ rfl n rfl rfl Try.underlying85 _ 48 info_surface rfl (by decide) (by decide) sf0.tup (ok := Any) (okp := fun _ => False) ⟨[_], [_, _, _, _], rfl, rfl, [_], [_, _, _], rfl, rfl, [_], [_, _], rfl, rfl, [_], [_], rfl, rfl, rfl⟩ (fun _ h => h.elim) trivial (by omega) (by omega) (Below.refl _ _) (Nat.le_refl _) ?_; intro v1 w1 hR1 hB1 hg1 hat1; obtain ⟨g, cap, hve, hgb, hgl, -⟩ := Kd.R_form hR1 (by rw [List.length_replicate]; omega); subst hve; clear hg1 hat1)
    go_ret2
    have hlt' : g < w1.heap.size := hgl
    refine ⟨w1.heap.size, g, cap, rfl, ⟨?_, ?_, by omega, hB1.size⟩, hB1.alloc hB1.size _⟩
    · have := (MapKept.heap_alloc w1 (.cells #[.int .i64 1, .int .i64 en, .slice (some ⟨g, 0, none⟩) n.toNat cap, .slice none 0 0, .map none] 88)).1
      simpa using this
    · have := Kd.R_alloc hR1 (.cells #[.int .i64 1, .int .i64 en, .slice (some ⟨g, 0, none⟩) n.toNat cap, .slice none 0 0, .map none] 88)
      show KdT.R _ _ _ _ _ ((List.replicate n.toNat sf0).map Sf.tup)
      rw [List.map_replicate]
      simpa using this
  · go_enter Try.func10, Try.ntmps10
    go_wp2_with (at_make; refine Kd.R_make KdT (w0 := w) w.heap.size 101 rfl rfl 85 _ _ rfl n rfl rfl Try.underlying85 _ 48 info_surface rfl (by decide) (by decide) sf0.tup (ok := Any) (okp := fun _ => False) ⟨[_], [_, _, _, _], rfl, rfl, [_], [_, _, _], rfl, rfl, [_], [_, _], rfl, rfl, [_], [_], rfl, rfl, rfl⟩ (fun _ h => h.elim) trivial (by omega) (by omega) (Below.refl _ _) (Nat.le_refl _) ?_; intro v1 w1 hR1 hB1 hg1 hat1; obtain ⟨g, cap, hve, hgb, hgl, -⟩ := Kd.R_form hR1 (by rw [List.length_replicate]; omega); subst hve; clear hg1 hat1)
    go_ret2
    have hlt' : g < w1.heap.size := hgl
    refine ⟨w1.heap.size, g, cap, rfl, ⟨?_, ?_, by omega, hB1.size⟩, hB1.alloc hB1.size _⟩
    · have := (MapKept.heap_alloc w1 (.cells #[.int .i64 2, .int .i64 en, .slice (some ⟨g, 0, none⟩) n.toNat cap, .slice none 0 0, .map none] 88)).1
      simpa using this
    · have := Kd.R_alloc hR1 (.cells #[.int .i64 2, .int .i64 en, .slice (some ⟨g, 0, none⟩) n.toNat cap, .slice none 0 0, .map none] 88)
      show KdT.R _ _ _ _ _ ((List.replicate n.toNat sf0).map Sf.tup)
      rw [List.map_replicate]
      simpa using this
end Go.Proofs.Ytfkfdaammlffmaa
