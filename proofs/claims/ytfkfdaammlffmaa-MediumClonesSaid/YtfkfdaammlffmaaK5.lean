import Derived.Test.YtfkfdaammlffmaaK2
import Derived.Deep.Grids
/-! A slice of bools. -/
namespace Go.Proofs.Ytfkfdaammlffmaa
set_option linter.unusedVariables false
set_option linter.unusedSimpArgs false
open Go.RowKit Go.ChangeShapes Go.WideShapes Go.ChangeAt
open Go.Proofs.YtfkfdaammlffmaaW.PrintWords
abbrev BC (w : World) (A : Option Addr) (xs : List Bool) : Prop := Kd.bool.C w A xs.length xs
theorem bc_cell {w : World} {A : Option Addr} {xs : List Bool} (h : BC w A xs) (j : Nat) (hj : j < xs.length) :
    ∃ ad, A = some ad ∧ w.cell? (ad.add j) = some (.bool (xs.getD j false)) := by
  obtain ⟨h1, h2, h3⟩ := h
  obtain ⟨ad, rfl, hc⟩ := h3 (by omega)
  obtain ⟨c, hl, hk, hcell⟩ := hc j _ (List.getElem?_eq_getElem hj)
  refine ⟨ad, rfl, ?_⟩
  have hk' : c = [.bool xs[j]] := hk
  subst hk'
  have := hcell 0 (.bool xs[j]) rfl
  rw [show j * Kd.bool.sz + 0 = j by simp [show Kd.bool.sz = 1 from rfl]] at this
  rw [this, List.getD_eq_getElem?_getD, List.getElem?_eq_getElem hj]
  rfl
theorem bc_below {w w1 : World} {A : Option Addr} {xs : List Bool} (h : BC w A xs) (hb : Below w.heap.size w w1) : BC w1 A xs := Kd.C_below h hb
theorem bc_max {w : World} {A : Option Addr} {xs : List Bool} (h : BC w A xs) : xs.length ≤ 9223372036854775807 := Kd.C_max h
theorem arg_bools {H : Type} {enc : TypeId × Value → H} {P : Program} {W : World} {base : Nat} {held : Bool} {t e : TypeId} {a : Option Addr} {len cap : Nat} {d : DataW H} {ps : List MemPlace}
    (hu : P.underlying t = some (.slice e)) (he : P.underlying e = some .bool) (hc : P.cellsOf e = 1) (h : DataW.Trod enc P W base (fun _ => true) held t (.slice a len cap) d ps) :
    ∃ l : List Bool, len = l.length ∧ BC W a l ∧ l.length ≤ cap := by
  obtain ⟨fuel, hf⟩ := h
  rcases Go.Deep.open_bools hu he hc hf with ⟨hcs, _⟩ | ⟨x, l, c, Bf, hcs, _, hl, hm, _, hcell⟩
  · simp [Value.cells] at hcs
    obtain ⟨rfl, rfl, rfl⟩ := hcs
    exact ⟨[], rfl, Kd.C_nil _ _, by simp⟩
  · simp [Value.cells] at hcs
    obtain ⟨rfl, rfl, rfl⟩ := hcs
    unfold maxLen at hm
    refine ⟨(List.range len).map Bf, by simp, ?_, by simpa using hl⟩
    refine Kd.C_of_reads (d := false) ⟨rfl, by simp; omega, fun _ => ⟨x, rfl, fun i hi => ?_⟩⟩
    have hi' : i < len := by simpa using hi
    rw [hcell i (by omega)]
    simp [List.getD_eq_getElem?_getD, hi']
end Go.Proofs.Ytfkfdaammlffmaa
