import Derived.Test.YtlifinlideiloaaDR
/-! slices.Equal at replacements, two rows that hold the same list. -/
namespace Go.Proofs.Ytlifinlideiloaa
set_option linter.unusedVariables false
set_option linter.unusedSimpArgs false
open Go.RowKit Go.Proofs
open Go.Proofs.YtlifinlideiloaaW.PrintWords

abbrev RC (w : World) (A : Option Addr) (n : Nat) (l : PL) : Prop := KdR.C w A n l
theorem rc_cell {w : World} {A : Option Addr} {n : Nat} {l : PL} (h : RC w A n l) (j : Nat) (hj : j < n) :
    ∃ ad x, A = some ad ∧ l.getD j (0, 0) = x ∧ w.cell? (ad.add (j * 2)) = some (.int .i64 x.1) ∧ w.cell? (ad.add (j * 2 + 1)) = some (.int .i64 x.2) := by
  obtain ⟨ad, c, rfl, hc, hK, hat⟩ := Kd.C_get h (0, 0) (j : Int) (by omega) (by omega)
  obtain ⟨c0, c1, rfl, h0, h1⟩ := hK
  rw [Int.toNat_natCast] at h0 h1 hat
  have e0 : c0 = [.int .i64 (l.getD j (0, 0)).1] := h0
  have e1 : c1 = [.int .i64 (l.getD j (0, 0)).2] := h1
  subst e0; subst e1
  exact ⟨ad, _, rfl, rfl, hat 0 _ rfl, hat 1 _ rfl⟩

/-- a row of one's own: its elements, in whatever world keeps its block -/
theorem rr_form {w : World} {base n c : Nat} {A : Option Addr} {l : PL} (h : RR w base (.slice A n c) l) (hp : 0 < n) :
    ∃ g, A = some ⟨g, 0, none⟩ ∧ ∀ j, j < n → ∃ x, l.getD j (0, 0) = x ∧ ∀ w', Below w.heap.size w w' → w'.cell? ⟨g, j * 2, none⟩ = some (.int .i64 x.1) ∧ w'.cell? ⟨g, j * 2 + 1, none⟩ = some (.int .i64 x.2) := by
  obtain ⟨h1, h2, h3⟩ := Kd.R_reads' h
  obtain ⟨g, cap, he, hg, hlt, -⟩ := Kd.R_form h (by omega)
  injection he with he
  subst he
  refine ⟨g, rfl, fun j hj => ?_⟩
  obtain ⟨ad, x, ha, hx, c0, c1⟩ := rc_cell (n := n) (by rw [h1]; exact h3) j hj
  injection ha with ha
  subst ha
  rw [Addr.add_mid, Nat.zero_add] at c0 c1
  exact ⟨x, hx, fun w' hb => ⟨(hb.cell hlt).trans c0, (hb.cell hlt).trans c1⟩⟩

set_option maxRecDepth 100000 in
theorem equalR_any (A B : Option Addr) (n c d b1 b2 : Nat) (l : PL) (w : World) (h : RR w b1 (.slice A n c) l) (h' : RR w b2 (.slice B n d) l) (hn : n ≤ 1000) :
    Calls Try.prog 26 #[.slice A n c, .slice B n d] w fun e w' => e = .returned (.bool true) ∧ Below w.heap.size w w' := by
  have hnn : ((n : Int) != n) = false := by simp
  go_enter Try.func26, Try.ntmps26
  go_wp2
  go_loopw [13] (fun i wr => ∃ (k : Nat), k ≤ n ∧ i = .int .i64 k ∧ Below w.heap.size w wr) (fun i _ => n - (intOf i).toNat)
  case atStart => exact ⟨0, by omega, rfl, Below.refl _ _⟩
  case round =>
    obtain ⟨k, hk, rfl, hb⟩ := hrel
    by_cases hlt : k < n
    · obtain ⟨g, rfl, hg⟩ := rr_form h (by omega)
      obtain ⟨g', rfl, hg'⟩ := rr_form h' (by omega)
      obtain ⟨x, hx, hl⟩ := hg k hlt
      obtain ⟨x', hx', hl'⟩ := hg' k hlt
      rw [hx] at hx'
      subst hx'
      clear hx hg hg'
      obtain ⟨xa, xb⟩ := x
      have l0 := fun w' hb => (hl w' hb).1
      have l1 := fun w' hb => (hl w' hb).2
      have l2 := fun w' hb => (hl' w' hb).1
      have l3 := fun w' hb => (hl' w' hb).2
      simp only at l0 l1 l2 l3
      clear hl hl'
      go_wp2
      go_region_held3 (fun w' => Below w.heap.size w w') (first | assumption | exact below_drew hb) (fail)
      go_wp2
      go_roundw
      case rel => exact ⟨k + 1, by omega, by go_num, by assumption⟩
      case measure => simp [intOf]; omega
    · obtain rfl : k = n := by omega
      go_wp2
      go_ret
      exact ⟨rfl, hb⟩
end Go.Proofs.Ytlifinlideiloaa
