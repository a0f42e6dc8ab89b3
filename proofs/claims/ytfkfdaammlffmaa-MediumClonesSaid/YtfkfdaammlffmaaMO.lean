import Derived.Test.YtfkfdaammlffmaaMN
import Derived.Maps.OwnRows
/-! A look-up by an int key hangs on the map's block alone. -/
namespace Go.Proofs.Ytfkfdaammlffmaa
set_option linter.unusedVariables false
set_option linter.unusedSimpArgs false
open Go.RowKit Go.Proofs
open Go.Maps (Keyed)
open Go.WideElems Go.ChangeShapes Go.WideShapes Go.MapKept Go.ChangeMaps

theorem lookup_same {H : Type} {P : Program} {w w' : World} {t k e : TypeId} {b : Nat} {i : Int} {kl : Lit} {es : Array MapEntry} {clock : Nat} {R : Value → Option (DataW H × List MemPlace)} (hk : P.underlying k = some (.int .i64)) (ht : P.underlying t = some (.map k e)) {z v : Value} (hz : ∀ u : World, (zeroValue e).run P u = .ok z u)
    (hb : w.heap[b]? = some (.map es clock)) (hb' : w'.heap[b]? = some (.map es clock)) (F : Fit P k R es clock) (hi : keyOf P k (.int .i64 i) = some kl) (hr : (Instr.lookup t (.map (some b)) (.int .i64 i) false).run P w = .ok v w) : (Instr.lookup t (.map (some b)) (.int .i64 i) false).run P w' = .ok v w' := by
  have K := Maps.int_keyed hk
  have hkey : ∀ {x : Value} {l : Lit}, keyOf P k x = some l → IsKey (.int .i64) x := fun {x l} h => by
    have h2 : mapKey P k x = some l := by simpa [keyOf, hk] using h
    cases x <;> simp [mapKey, hk] at h2
    obtain ⟨⟨rfl, _⟩, _⟩ := h2
    trivial
  have hks : ∀ x ∈ es.toList, IsKey (.int .i64) x.key := fun x hx => by
    obtain ⟨y, hy⟩ := F.reads x hx
    exact hkey (rd_key hy)
  rcases findNow_spec (hkey hi) es.toList 0 hks with ⟨h1, -⟩ | ⟨j, e0, h1, -, -⟩
  · have f1 := run_findKey (P := P) (w := w) hk h1
    have f2 := run_findKey (P := P) (w := w') hk h1
    have r1 : (Instr.lookup t (.map (some b)) (.int .i64 i) false).run P w = .ok z w := by simp [Instr.lookup, run_underlying ht, MapKept.run_getObj_map hb, K.check w _ hi, f1, hz, Result.andThen]
    have r2 : (Instr.lookup t (.map (some b)) (.int .i64 i) false).run P w' = .ok z w' := by simp [Instr.lookup, run_underlying ht, MapKept.run_getObj_map hb', K.check w' _ hi, f2, hz, Result.andThen]
    rw [r1] at hr
    injection hr with hr
    rw [r2, hr]
  · have f1 := run_findKey (P := P) (w := w) hk h1
    have f2 := run_findKey (P := P) (w := w') hk h1
    have r1 : (Instr.lookup t (.map (some b)) (.int .i64 i) false).run P w = .ok e0.val w := by simp [Instr.lookup, run_underlying ht, MapKept.run_getObj_map hb, K.check w _ hi, f1, Result.andThen]
    have r2 : (Instr.lookup t (.map (some b)) (.int .i64 i) false).run P w' = .ok e0.val w' := by simp [Instr.lookup, run_underlying ht, MapKept.run_getObj_map hb', K.check w' _ hi, f2, Result.andThen]
    rw [r1] at hr
    injection hr with hr
    rw [r2, hr]
end Go.Proofs.Ytfkfdaammlffmaa
