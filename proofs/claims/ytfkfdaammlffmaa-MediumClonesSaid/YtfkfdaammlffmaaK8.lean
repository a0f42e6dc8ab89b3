import Derived.Test.YtfkfdaammlffmaaK2
import Derived.Test.YtfkfdaammlffmaaMD
import Derived.Deep.SlicePairs
import Derived.Deep.MidRow
import Derived.Lib.SmallJoins
/-! Arguments that are slices of pairs of whole numbers, read. -/
namespace Go.Proofs.Ytfkfdaammlffmaa
set_option linter.unusedVariables false
set_option linter.unusedSimpArgs false
open Go.RowKit Go.ChangeShapes Go.WideShapes Go.ChangeAt
open Go.Proofs.YtfkfdaammlffmaaW.PrintWords
theorem pc_of_cells (w : World) (x : Addr) (l : PL) (hm : l.length ≤ 9223372036854775807) (h : ∀ j (hj : j < l.length), w.cell? (x.add (j * 2)) = some (.int .i64 (l[j]).1) ∧ w.cell? (x.add (j * 2 + 1)) = some (.int .i64 (l[j]).2)) : PC w (some x) l := by
  refine ⟨rfl, hm, fun _ => ⟨_, rfl, fun j p hj => ?_⟩⟩
  have hjl : j < l.length := (List.getElem?_eq_some_iff.1 hj).1
  have hp : l[j] = p := (List.getElem?_eq_some_iff.1 hj).2
  obtain ⟨f1, f2⟩ := h j hjl
  rw [hp] at f1 f2
  refine ⟨[.int .i64 p.1, .int .i64 p.2], rfl, ⟨[_], [_], rfl, rfl, rfl⟩, fun i u hi => ?_⟩
  show w.cell? (x.add (j * 2 + i)) = some u
  match i, hi with
  | 0, hi => injection hi with hi; subst hi; exact f1
  | 1, hi => injection hi with hi; subst hi; exact f2
/-- a slice of pairs, from its cells -/
theorem cell_pairs {H : Type} {enc : TypeId × Value → H} {P : Program} {W : World} {base : Nat} {held : Bool} {t e : TypeId} {f0 f1 : Field} {n : Nat} {v : Value} {y : DataW H × List MemPlace}
    (hu : P.underlying t = some (.slice e)) (he : P.underlying e = some (.struct #[f0, f1])) (ce : P.cellsOf e = 2) (o0 : f0.offset = 0) (o1 : f1.offset = 1) (c0 : P.cellsOf f0.type = 1) (c1 : P.cellsOf f1.type = 1)
    (i0 : P.underlying f0.type = some (.int .i64)) (i1 : P.underlying f1.type = some (.int .i64)) (h : DataW.trod enc P W base (fun _ => true) held n t [v] = some y) :
    ∃ (a : Option Addr) (l : PL) (cap : Nat), v = .slice a l.length cap ∧ PC W a l ∧ l.length ≤ cap ∧ ∀ x ∈ l, (Lit.int .i64 x.1).wf = true ∧ (Lit.int .i64 x.2).wf = true := by
  rcases Go.Deep.open_slice_pairs hu he ce o0 o1 c0 c1 h with ⟨hcs, -⟩ | ⟨a, len, cap, m, k, V0, V1, D0, D1, P0, P1, hcs, -, hl, hm, hmm, -, hx⟩
  · have hv : v = .slice none 0 0 := by simpa using hcs
    exact ⟨none, [], 0, hv, ⟨rfl, by simp, fun h => absurd h (by simp)⟩, by simp, by simp⟩
  · have hv : v = .slice (some a) len cap := by simpa using hcs
    have hlm : len ≤ m := by rw [hmm]; split <;> omega
    unfold maxLen at hm
    have each : ∀ i, i < len → ∃ q : Int × Int, V0 i = .int .i64 q.1 ∧ V1 i = .int .i64 q.2 ∧ (Lit.int .i64 q.1).wf = true ∧ (Lit.int .i64 q.2).wf = true := fun i hi => by
      obtain ⟨-, -, g0, g1⟩ := hx i (by omega)
      obtain ⟨n0, e0, -, w0⟩ := DataW.trod_int i0 g0
      obtain ⟨n1, e1, -, w1⟩ := DataW.trod_int i1 g1
      exact ⟨(n0, n1), by simpa using e0, by simpa using e1, w0, w1⟩
    obtain ⟨q, hq⟩ := Go.Deep.choose_lt each
    refine ⟨some a, (List.range len).map q, cap, by rw [hv]; simp, pc_of_cells _ _ _ (by simp; omega) (fun j hj => ?_), by simpa using hl, fun x hx' => ?_⟩
    · have hj' : j < len := by simpa using hj
      obtain ⟨g0, g1, -⟩ := hx j (by omega)
      obtain ⟨e0, e1, -⟩ := hq j hj'
      rw [List.getElem_map, List.getElem_range, g0, g1, e0, e1]
      exact ⟨rfl, rfl⟩
    · obtain ⟨i, hi, rfl⟩ := List.mem_map.1 hx'
      exact (hq i (List.mem_range.1 hi)).2.2
/-- a slice of whole numbers, from its cells -/
theorem cell_ints {H : Type} {enc : TypeId × Value → H} {P : Program} {W : World} {base : Nat} {held : Bool} {t e : TypeId} {k : IntKind} {n : Nat} {v : Value} {y : DataW H × List MemPlace}
    (hu : P.underlying t = some (.slice e)) (he : P.underlying e = some (.int k)) (hc : P.cellsOf e = 1) (h : DataW.trod enc P W base (fun _ => true) held n t [v] = some y) :
    ∃ (a : Option Addr) (l : List Int) (cap : Nat), v = .slice a l.length cap ∧ IC k W a l ∧ l.length ≤ cap ∧ ∀ x ∈ l, (Lit.int k x).wf = true := by
  rcases open_ints hu he hc h with ⟨hcs, _⟩ | ⟨x, l, c, zs, hcs, _, hl, hm, hz, _, hcell, hwz⟩
  · have hv : v = .slice none 0 0 := by simpa using hcs
    exact ⟨none, [], 0, hv, Kd.C_nil _ _, by simp, by simp⟩
  · have hv : v = .slice (some x) l c := by simpa using hcs
    have hz' : zs.length = c := by simpa using hz
    unfold maxLen at hm
    exact ⟨some x, zs.take l, c, by rw [hv, List.length_take, Nat.min_eq_left (by omega)], ic_of_cells k W x l c zs hl (by omega) hz' hcell, by rw [List.length_take]; omega, fun y hy => hwz y (List.mem_of_mem_take hy)⟩
/-- an argument that is a slice of pairs -/
theorem arg_pairs {H : Type} {enc : TypeId × Value → H} {P : Program} {W : World} {base : Nat} {held : Bool} {t e : TypeId} {f0 f1 : Field} {a : Option Addr} {len cap : Nat} {d : DataW H} {ps : List MemPlace}
    (hu : P.underlying t = some (.slice e)) (he : P.underlying e = some (.struct #[f0, f1])) (ce : P.cellsOf e = 2) (o0 : f0.offset = 0) (o1 : f1.offset = 1) (c0 : P.cellsOf f0.type = 1) (c1 : P.cellsOf f1.type = 1)
    (i0 : P.underlying f0.type = some (.int .i64)) (i1 : P.underlying f1.type = some (.int .i64)) (h : DataW.Trod enc P W base (fun _ => true) held t (.slice a len cap) d ps) :
    ∃ l : PL, len = l.length ∧ PC W a l ∧ l.length ≤ cap ∧ ∀ x ∈ l, (Lit.int .i64 x.1).wf = true ∧ (Lit.int .i64 x.2).wf = true := by
  obtain ⟨fuel, hf⟩ := h
  have hf' : DataW.trod enc P W base (fun _ => true) held fuel t [.slice a len cap] = some (d, ps) := by simpa [Value.cells] using hf
  obtain ⟨a', l, cap', e1, e2, e3, e4⟩ := cell_pairs hu he ce o0 o1 c0 c1 i0 i1 hf'
  injection e1 with e5 e6 e7
  subst e5; subst e7
  exact ⟨l, e6, e2, e3, e4⟩
end Go.Proofs.Ytfkfdaammlffmaa
