import Derived.Test.YtfkfdaammlffmaaMO
import Derived.Maps.Views
/-! The map of the lost offsets, in plain words. -/
namespace Go.Proofs.Ytfkfdaammlffmaa
set_option linter.unusedVariables false
set_option linter.unusedSimpArgs false
open Go.RowKit Go.Proofs
open Go.Maps Go.ChangeShapes Go.ChangeMaps Go.WideShapes

/-- the offsets of sector i -/
def lostAt (offs : List Int) (i : Int) : List Int := (offs.filter (fun k => k / 2352 == i)).map (fun k => k % 2352)
theorem lostAt_snoc (offs : List Int) (x i : Int) : lostAt (offs ++ [x]) i = lostAt offs i ++ (if x / 2352 = i then [x % 2352] else []) := by
  unfold lostAt
  rw [List.filter_append, List.map_append]
  congr 1
  by_cases h : x / 2352 = i
  · rw [if_pos h, List.filter_cons_of_pos (by simpa using h)]; rfl
  · rw [if_neg h, List.filter_cons_of_neg (by simpa using h)]; rfl
def rowD (l : List Int) : DataW Unit := if l = [] then .nil else .slice (lits .i64 l) []
theorem lits_inj {l m : List Int} (h : (lits .i64 l : List (DataW Unit)) = lits .i64 m) : l = m := by
  unfold lits at h
  exact (List.map_inj_right (fun a b e => by injection e with e; injection e)).1 h
/-- the map holds, at each sector, its offsets -/
def GD (D : DataW Unit) (offs : List Int) : Prop := IsMap D ∧ ∀ i : Int, D.atKey (.int .i64 i) .nil = rowD (lostAt offs i)
theorem GD.start : GD (.map []) [] := ⟨isMap_empty, fun i => rfl⟩
theorem GD.at_ {D : DataW Unit} {offs : List Int} (h : GD D offs) {w : World} {base : Nat} {e : TypeId} {i : Int} {v : Value} {zs : List Int} (ho : w.ownsInts base e .i64 v zs) (hat : D.atKey (.int .i64 i) .nil = rowDatum .i64 v zs) : zs = lostAt offs i := by
  have h1 := h.2 i
  rw [hat] at h1
  unfold rowD at h1
  rcases ho.datum (H := Unit) with ⟨h2, rfl⟩ | h2
  · rw [h2] at h1
    split at h1
    · rename_i e; exact e.symm
    · cases h1
  · rw [h2] at h1
    split at h1
    · cases h1
    · injection h1 with h1
      exact lits_inj h1
theorem GD.step {D : DataW Unit} {offs : List Int} (h : GD D offs) {w' : World} {base : Nat} {e : TypeId} (x : Int) {v' : Value} (ho : w'.ownsInts base e .i64 v' (lostAt offs (x / 2352) ++ [x % 2352])) : GD (D.put (.int .i64 (x / 2352)) (rowDatum .i64 v' (lostAt offs (x / 2352) ++ [x % 2352]))) (offs ++ [x]) := by
  refine ⟨?_, fun i => ?_⟩
  · exact h.1.put _ _
  · rw [lostAt_snoc]
    by_cases hi : x / 2352 = i
    · subst hi
      rw [if_pos rfl, atKey_put_same h.1 (show WideAt.IsKeyLit (.int .i64 (x / 2352)) by simp [WideAt.IsKeyLit]), ho.datum_pos (by simp)]
      unfold rowD
      rw [if_neg (by simp)]
    · rw [if_neg hi, List.append_nil, atKey_put_other (by intro e; injection e with _ e; exact hi e.symm), h.2 i]
end Go.Proofs.Ytfkfdaammlffmaa
