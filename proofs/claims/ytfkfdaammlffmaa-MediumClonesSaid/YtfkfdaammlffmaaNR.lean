import Derived.Test.YtfkfdaammlffmaaNQ
/-! Two media beside each other; calls of one keep the other. -/
namespace Go.Proofs.Ytfkfdaammlffmaa
set_option linter.unusedVariables false
set_option linter.unusedSimpArgs false
open Go.RowKit Go.Proofs
open Go.Proofs.YtfkfdaammlffmaaW.PrintWords

theorem After.refl_ {w : World} {base t g cap : Nat} {M : Med} {S : List Sf} {sv lv : Value} (h : MedAt w base t M g cap S sv lv) : After w w base t M (Own t g S lv) := ⟨g, cap, S, sv, lv, h, fun k hk => .inl hk, Tn.refl _ _⟩
theorem After.comp {w w1 w' : World} {base t g : Nat} {M' : Med} {S : List Sf} {lv : Value} {O : Nat → Prop} (hs : ∀ k, Own t g S lv k → O k ∨ w.heap.size ≤ k) (T : Tn O w w1) (h : After w1 w' base t M' (Own t g S lv)) : After w w' base t M' O := by
  obtain ⟨g2, cap2, S2, sv2, lv2, h1, h2, T2⟩ := h
  refine ⟨g2, cap2, S2, sv2, lv2, h1, fun k hk => ?_, T.trans T2 (fun j hj hy => ?_)⟩
  · rcases h2 k hk with h3 | h3
    · exact hs k h3
    · exact .inr (Nat.le_trans T.size h3)
  · rcases hs j hy with h3 | h3
    · exact h3
    · omega
/-- what another medium's calls leave of this one -/
theorem MedAt.other {w w' : World} {base t g cap base2 t2 g2 cap2 : Nat} {M M2 : Med} {S S2 : List Sf} {sv lv sv2 lv2 : Value} (h : MedAt w base t M g cap S sv lv) (h2 : MedAt w base2 t2 M2 g2 cap2 S2 sv2 lv2) (T : Tn (Own t2 g2 S2 lv2) w w') (hd : ∀ k, Own t g S lv k → ¬ Own t2 g2 S2 lv2 k) : MedAt w' base t M g cap S sv lv :=
  h.keep T hd (fun k hk _ => (h2.own_obj hk).2.2)
theorem fewS_spec {l : List ActD} (h : fewS l = true) : (∀ a ∈ l, a.small = true) ∧ l.length ≤ 40 := by
  unfold fewS at h
  simp only [Bool.and_eq_true, decide_eq_true_eq] at h
  exact ⟨List.all_eq_true.1 h.1, h.2⟩
theorem acts_take {M : Med} {l : List ActD} {k : Nat} (h : k < l.length) : actsP M (l.take (k + 1)) = (actP (actsP M (l.take k)) l[k]).1 := by
  rw [List.take_add_one, List.getElem?_eq_getElem h]
  exact actsP_snoc _ _ _
theorem takes_wm {N : Nat} {M : Med} (h : WM N M) (l : List ActD) (k : Nat) (hl : l.length ≤ 40) : WM (N + 40) (actsP M (l.take k)) :=
  (actsP_wm h _).mono (by rw [List.length_take]; omega)
theorem put_len (M : Med) (k : Nat) (x : Sec) : (M.put k x).L.length = M.L.length := by simp [Med.put]
theorem actP_len (M : Med) (a : ActD) : (actP M a).1.L.length = M.L.length := by
  unfold actP recM tearM eraM scrM damM
  repeat (first | rfl | (rw [put_len]) | split)
theorem actsP_len (M : Med) (l : List ActD) : (actsP M l).L.length = M.L.length := by
  induction l generalizing M with
  | nil => rfl
  | cons a l ih => exact (ih _).trans (actP_len M a)
/-- one call more, of a medium beside which others lie -/
theorem act_step {w : World} {base t g cap : Nat} {M : Med} {S : List Sf} {sv lv : Value} {N : Nat} (w0 : World) (hb0 : w0.heap.size ≤ base) (h : MedAt w base t M g cap S sv lv) (hw : WM N M) (hN : N ≤ 1000) (hB : Below w0.heap.size w0 w) (a : ActD) (hs : a.small = true) (ha : ActOk w0 a) :
    Calls Try.prog 23 #[.pointer (some ⟨t, 0, none⟩), .agg a.cells] w fun e w' => e = .returned (.int .i64 (actP M a).2) ∧ After w w' base t (actP M a).1 (Own t g S lv) :=
  actM_any h hw (by omega) a hs (fun w' hb => ha.below (hB.trans (hb.mono hb0)))
theorem act_box {W : World} {bx : Nat} {a : ActD} (h : W.heap[bx]? = some (.cells a.cells 46 (0, 0))) :
    W.cell? ⟨bx, 0, none⟩ = some (.int .i64 a.kind) ∧ W.cell? ⟨bx, 1, none⟩ = some (.int .i64 a.at_) ∧ W.cell? ⟨bx, 2, none⟩ = some (.int .i64 a.byte) ∧ W.cell? ⟨bx, 3, none⟩ = some (.bool a.short) ∧
      W.cell? ⟨bx, 4, none⟩ = some (.slice a.sA a.sl.length a.sc) ∧ W.cell? ⟨bx, 5, none⟩ = some (.int .i64 a.lba) ∧ W.cell? ⟨bx, 6, none⟩ = some (.slice a.eA a.el.length a.ec) ∧ W.cell? ⟨bx, 7, none⟩ = some (.slice a.cA a.cl.length a.cc) := by
  simp [World.cell?, h, ActD.cells]
theorem after_box {w w' : World} {base t bx : Nat} {M : Med} {O : Nat → Prop} {o : Obj} (h : After w w' base t M O) (hx : w.heap[bx]? = some o) (hn : ¬ O bx) : w'.heap[bx]? = some o := by
  obtain ⟨g, cap, S, sv, lv, -, -, T⟩ := h
  exact (T.block bx (Array.getElem?_eq_some_iff.1 hx).1 hn).trans hx
theorem alloc_cells {w : World} (a : ActD) : Below w.heap.size w (w.alloc (.cells a.cells 46)) := (Below.refl _ _).alloc (Nat.le_refl _) _
end Go.Proofs.Ytfkfdaammlffmaa
