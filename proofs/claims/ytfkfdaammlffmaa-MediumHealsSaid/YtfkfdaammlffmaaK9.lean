import Derived.Test.YtfkfdaammlffmaaNL
import Derived.Test.YtfkfdaammlffmaaK8
/-! An argument that is a damage, read. -/
namespace Go.Proofs.Ytfkfdaammlffmaa
set_option linter.unusedVariables false
set_option linter.unusedSimpArgs false
open Go.RowKit Go.ChangeShapes Go.WideShapes Go.ChangeAt Go.Joins
open Go.Proofs.YtfkfdaammlffmaaW.PrintWords
set_option maxRecDepth 100000 in
theorem arg_damage {H : Type} {enc : TypeId × Value → H} {W : World} {base b0 : Nat} {r : Reach} {held : Bool} {v : Value} {d : DataW H} {ps : List MemPlace} (hv : Value.okWide Try.prog W r b0 44 v) (h : DataW.Trod enc Try.prog W base (fun _ => true) held 44 v d ps) :
    ∃ (lba : Int) (ae : Option Addr) (ce : Nat) (le : List Int) (ac : Option Addr) (cc : Nat) (lc : PL), v = .agg #[.int .i64 lba, .slice ae le.length ce, .slice ac lc.length cc] ∧ DamArg W ae ce le ac cc lc := by
  obtain ⟨v0, v1, v2, y0, y1, y2, n, rfl, -, -, h0, h1, h2⟩ := open_agg3 Try.underlying44 (by kernel_rfl) (by kernel_rfl) hv h
  obtain ⟨lba, e0, -, -⟩ := DataW.trod_int Try.underlying3 h0
  obtain rfl : v0 = .int .i64 lba := by simpa using e0
  obtain ⟨ae, le, ce, rfl, g1, g2, g3⟩ := cell_ints Try.underlying30 Try.underlying3 (by kernel_rfl) h1
  obtain ⟨ac, lc, cc, rfl, k1, k2, k3⟩ := cell_pairs Try.underlying42 Try.underlying105 (by kernel_rfl) rfl rfl (by kernel_rfl) (by kernel_rfl) Try.underlying3 Try.underlying3 h2
  exact ⟨lba, ae, ce, le, ac, cc, lc, rfl, ⟨g1, g2, k1, k2, g3, k3⟩⟩
end Go.Proofs.Ytfkfdaammlffmaa
