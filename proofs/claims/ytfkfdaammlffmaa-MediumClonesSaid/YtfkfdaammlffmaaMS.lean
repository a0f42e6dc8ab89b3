import Derived.Test.YtfkfdaammlffmaaMR
/-! The map of the lost offsets in memory; bounds of what is lost. -/
namespace Go.Proofs.Ytfkfdaammlffmaa
set_option linter.unusedVariables false
set_option linter.unusedSimpArgs false
open Go.RowKit Go.Proofs
open Go.Maps Go.ChangeShapes Go.ChangeMaps Go.WideShapes Go.MapKept
open Go.WideElems (Fit)

theorem groups_keep {H : Type} {P : Program} {w w' : World} {k e : TypeId} {base : Nat} {q : IntKind} {b n : Nat} {D : DataW H} (h : w.ownsGroups P k base e q b n D) (hb : w'.heap[b]? = w.heap[b]?)
    (hr : ∀ (g : Nat) (cur : Array Value), base ≤ g → w.heap[g]? = some (.cells cur e (0, 0)) → w'.heap[g]? = w.heap[g]?) : w'.ownsGroups P k base e q b n D := by
  obtain ⟨es, clock, h1, F, h2, h3, h4, h5, h6⟩ := h
  have hmv : ∀ (v : Value) (zs : List Int), w.ownsInts base e q v zs → w'.ownsInts base e q v zs := by
    intro v zs ho
    refine ⟨⟨ho.1.1, ?_⟩, ho.2⟩
    rcases ho.1.2 with h | ⟨g, cap, cur, e1, hg, hh, r⟩
    · exact .inl h
    · exact .inr ⟨g, cap, cur, e1, hg, (hr g cur hg hh).trans hh, r⟩
  have hst : ∀ x ∈ es.toList, ∀ z, rowElem (H := H) w base e q x.val = some z → rowElem w' base e q x.val = some z := by
    intro x _ z hz
    obtain ⟨zs, ho, rfl⟩ := rowElem_inv hz
    exact rowElem_mk (hmv _ _ ho)
  obtain ⟨F2, hm2, _⟩ := F.stay hst
  refine ⟨es, clock, hb.trans h1, F2, h2, ?_, h4, ?_, h6⟩
  · rw [hm2]; exact h3
  · intro x hx zs ho
    obtain ⟨y, hy⟩ := F.reads x hx
    obtain ⟨z, hz, _⟩ := WideElems.rd_val hy
    obtain ⟨zs0, ho0, _⟩ := rowElem_inv hz
    rw [ho.unique (hmv _ _ ho0)]
    exact h5 x hx zs0 ho0

/-- the map of the offsets that scratches erase: its entries' rows are read (another map may share them) -/
def LM (w : World) (base : Nat) (lv : Value) (offs : List Int) : Prop :=
  (lv = .map none ∧ offs = []) ∨ ∃ (lb gb : Nat) (es : Array MapEntry) (clock : Nat) (D : DataW Unit), lv = .map (some lb) ∧ base ≤ lb ∧ w.heap[lb]? = some (.map es clock) ∧ Fit Try.prog 3 (rowElem (H := Unit) w gb 3 .i64) es clock ∧
    D = .map ((es.toList.map (Go.WideElems.rg Try.prog 3 (rowElem (H := Unit) w gb 3 .i64))).foldr DataW.insert []) ∧ GD D offs
theorem LM.nil (w : World) (base : Nat) : LM w base (.map none) [] := .inl ⟨rfl, rfl⟩
theorem LM.of_groups {w : World} {base lb gb n : Nat} {D : DataW Unit} {offs : List Int} (h1 : base ≤ lb) (h4 : w.ownsGroups Try.prog 3 gb 3 .i64 lb n D) (h5 : GD D offs) : LM w base (.map (some lb)) offs := by
  obtain ⟨es, clock, hb, F, -, hD, -⟩ := h4
  exact .inr ⟨lb, gb, es, clock, D, rfl, h1, hb, F, hD, h5⟩
theorem fit_move {w w' : World} {gb : Nat} {es : Array MapEntry} {clock : Nat} (F : Fit Try.prog 3 (rowElem (H := Unit) w gb 3 .i64) es clock)
    (hr : ∀ (g : Nat) (cur : Array Value), w.heap[g]? = some (Obj.cells cur 3 (0, 0)) → w'.heap[g]? = w.heap[g]?) :
    Fit Try.prog 3 (rowElem (H := Unit) w' gb 3 .i64) es clock ∧ (es.toList.map (Go.WideElems.rg Try.prog 3 (rowElem (H := Unit) w' gb 3 .i64))) = (es.toList.map (Go.WideElems.rg Try.prog 3 (rowElem (H := Unit) w gb 3 .i64))) := by
  have hmv : ∀ (v : Value) (zs : List Int), w.ownsInts gb 3 .i64 v zs → w'.ownsInts gb 3 .i64 v zs := by
    intro v zs ho
    refine ⟨⟨ho.1.1, ?_⟩, ho.2⟩
    rcases ho.1.2 with h | ⟨g, cap, cur, e1, hg, hh, r⟩
    · exact .inl h
    · exact .inr ⟨g, cap, cur, e1, hg, (hr g cur hh).trans hh, r⟩
  have hst : ∀ x ∈ es.toList, ∀ z, rowElem (H := Unit) w gb 3 .i64 x.val = some z → rowElem w' gb 3 .i64 x.val = some z := by
    intro x _ z hz
    obtain ⟨zs, ho, rfl⟩ := rowElem_inv hz
    exact rowElem_mk (hmv _ _ ho)
  obtain ⟨F2, hm2, _⟩ := F.stay hst
  exact ⟨F2, hm2⟩
/-- what writes no map and no row of whole numbers keeps it -/
theorem LM.keep {w w' : World} {base : Nat} {lv : Value} {offs : List Int} (h : LM w base lv offs) (hb : ∀ (b : Nat) (es : Array MapEntry) (cl : Nat), w.heap[b]? = some (Obj.map es cl) → lv = .map (some b) → w'.heap[b]? = w.heap[b]?)
    (hr : ∀ (g : Nat) (cur : Array Value), w.heap[g]? = some (Obj.cells cur 3 (0, 0)) → w'.heap[g]? = w.heap[g]?) (hs : w.heap.size ≤ w'.heap.size) : LM w' base lv offs := by
  rcases h with h | ⟨lb, gb, es, clock, D, rfl, h1, h2, h3, h4, h5⟩
  · exact .inl h
  · obtain ⟨F2, hm2⟩ := fit_move h3 hr
    exact .inr ⟨lb, gb, es, clock, D, rfl, h1, (hb lb es clock h2 rfl).trans h2, F2, by rw [hm2]; exact h4, h5⟩
theorem LM.below {w w' : World} {base : Nat} {lv : Value} {offs : List Int} (h : LM w base lv offs) (hb : Below w.heap.size w w') : LM w' base lv offs :=
  h.keep (fun b es cl hh _ => hb.block b (Array.getElem?_eq_some_iff.1 hh).1) (fun g cur hh => hb.block g (Array.getElem?_eq_some_iff.1 hh).1) hb.size
theorem LM.lower {w : World} {base base' : Nat} {lv : Value} {offs : List Int} (h : LM w base lv offs) (hb : base' ≤ base) : LM w base' lv offs := by
  rcases h with h | ⟨lb, gb, es, clock, D, rfl, h1, h2⟩
  · exact .inl h
  · exact .inr ⟨lb, gb, es, clock, D, rfl, by omega, h2⟩

theorem erS_mem {gn : List Bool} {f k : Nat} {x : Int} (h : x ∈ erS gn f k) : 0 ≤ x ∧ x < k := by
  unfold erS at h
  obtain ⟨i, hi, rfl⟩ := List.mem_map.1 h
  have := List.mem_range.1 (List.mem_filter.1 hi).1
  omega
theorem lostS_mem {gn : List Bool} {n : Nat} {x : Int} (h : x ∈ lostS gn n) : 0 ≤ x ∧ x < 24 * n := by
  unfold lostS at h
  obtain ⟨f, hf, hx⟩ := List.mem_flatMap.1 h
  have hf := List.mem_range.1 hf
  unfold lostF lostP at hx
  obtain ⟨i, hi, rfl⟩ := List.mem_map.1 hx
  obtain ⟨hi1, hi2⟩ := List.mem_filter.1 hi
  have := erS_mem (List.mem_of_mem_take hi1)
  simp only [Bool.and_eq_true, decide_eq_true_eq] at hi2
  omega
end Go.Proofs.Ytfkfdaammlffmaa
