import Derived.Test.YtfkfdaammlffmaaK3
/-! What scratches make unreadable, in plain words. -/
namespace Go.Proofs.Ytfkfdaammlffmaa
set_option linter.unusedVariables false
set_option linter.unusedSimpArgs false

/-- the symbols of word f among the first k that lie in frames that are gone -/
def erS (gn : List Bool) (f k : Nat) : List Int := ((List.range k).filter (fun i => gn.getD (f + 4 * i) false)).map (fun i : Nat => (i : Int))
theorem erS_zero (gn : List Bool) (f : Nat) : erS gn f 0 = [] := rfl
theorem erS_succ (gn : List Bool) (f k : Nat) : erS gn f (k + 1) = if gn.getD (f + 4 * k) false = true then erS gn f k ++ [(k : Int)] else erS gn f k := by
  unfold erS
  rw [List.range_succ, List.filter_append, List.map_append]
  by_cases h : gn.getD (f + 4 * k) false = true
  · rw [if_pos h, show [k].filter (fun i => gn.getD (f + 4 * i) false) = [k] from List.filter_cons_of_pos (p := fun i => gn.getD (f + 4 * i) false) h]; rfl
  · rw [if_neg h, show [k].filter (fun i => gn.getD (f + 4 * i) false) = [] from List.filter_cons_of_neg (p := fun i => gn.getD (f + 4 * i) false) h]; simp
theorem erS_length (gn : List Bool) (f k : Nat) : (erS gn f k).length ≤ k := by
  unfold erS
  rw [List.length_map]
  have := List.length_filter_le (fun i => gn.getD (f + 4 * i) false) (List.range k)
  simpa using this
/-- the offsets of word f that are lost, by the first m of its erased symbols -/
def lostP (er : List Int) (f m : Nat) : List Int := ((er.take m).filter (fun i => decide (4 < er.length) && decide (i < 24))).map (fun i => 24 * (f : Int) + i)
def lostF (gn : List Bool) (f : Nat) : List Int := lostP (erS gn f 28) f (erS gn f 28).length
def lostS (gn : List Bool) (n : Nat) : List Int := (List.range n).flatMap (lostF gn)
theorem lostS_succ (gn : List Bool) (n : Nat) : lostS gn (n + 1) = lostS gn n ++ lostF gn n := by simp [lostS, List.range_succ]
theorem lostP_length (er : List Int) (f m : Nat) : (lostP er f m).length ≤ er.length := by
  unfold lostP
  rw [List.length_map]
  refine Nat.le_trans (List.length_filter_le _ _) ?_
  rw [List.length_take]; omega
theorem lostF_length (gn : List Bool) (f : Nat) : (lostF gn f).length ≤ 28 := Nat.le_trans (lostP_length _ _ _) (erS_length gn f 28)
theorem lostS_length (gn : List Bool) (n : Nat) : (lostS gn n).length ≤ 28 * n := by
  induction n with
  | zero => simp [lostS]
  | succ n ih =>
    rw [lostS_succ, List.length_append]
    have := lostF_length gn n
    omega
/-- a word that no scratch touches loses nothing -/
theorem lostF_none (gn : List Bool) (f : Nat) (h : ∀ i, i < 28 → gn.getD (f + 4 * i) false = false) : lostF gn f = [] := by
  have : erS gn f 28 = [] := by
    unfold erS
    rw [List.filter_eq_nil_iff.2 (fun i hi => by rw [h i (by simpa using hi)]; simp)]
    rfl
  unfold lostF lostP
  rw [this]
  rfl
/-- frames first .. first + k are gone -/
def setS (l : List Bool) (a k : Nat) : List Bool := (List.range l.length).map (fun i => l.getD i false || (decide (a ≤ i) && decide (i < a + k)))
theorem setS_length (l : List Bool) (a k : Nat) : (setS l a k).length = l.length := by simp [setS]
theorem setS_getD (l : List Bool) (a k i : Nat) : (setS l a k).getD i false = (l.getD i false || (decide (i < l.length) && (decide (a ≤ i) && decide (i < a + k)))) := by
  unfold setS
  by_cases h : i < l.length
  · simp [List.getD_eq_getElem?_getD, h]
  · simp [List.getD_eq_getElem?_getD, h]
theorem setS_zero (l : List Bool) (a : Nat) : setS l a 0 = l := by
  apply List.ext_getElem
  · simp [setS]
  · intro i h1 h2
    simp [setS, List.getD_eq_getElem?_getD, h2]
    intro h3 h4; omega
theorem setS_succ (l : List Bool) (a k : Nat) (h : a + k < l.length) : (setS l a k).set (a + k) true = setS l a (k + 1) := by
  apply List.ext_getElem
  · simp [setS]
  · intro i h1 h2
    have hi : i < l.length := by simpa [setS] using h2
    rw [List.getElem_set]
    by_cases e : a + k = i
    · rw [if_pos e]; simp [setS]; omega
    · rw [if_neg e]
      simp only [setS, List.getElem_map, List.getElem_range]
      congr 1
      by_cases ha : a ≤ i
      · simp [ha]; omega
      · simp [ha]
theorem set17 (n i : Nat) (hn : 17 ≤ n) : (setS (List.replicate n false) 0 17).getD i false = decide (i < 17) := by
  rw [setS_getD, List.length_replicate]
  have : (List.replicate n false).getD i false = false := by
    rw [List.getD_eq_getElem?_getD, List.getElem?_replicate]
    split <;> rfl
  rw [this]
  by_cases h : i < 17
  · simp [h]; omega
  · simp [h]
/-- the awake example: the first 17 frames of 304 -/
theorem lost_awake : lostS (setS (List.replicate 304 false) 0 17) 196 = [0, 1, 2, 3, 4] := by
  have hg : ∀ i, (setS (List.replicate 304 false) 0 17).getD i false = decide (i < 17) := fun i => set17 304 i (by omega)
  generalize setS (List.replicate 304 false) 0 17 = gn at hg ⊢
  have h0 : lostF gn 0 = [0, 1, 2, 3, 4] := by
    unfold lostF lostP erS
    simp only [hg]
    decide
  have hs : ∀ n, lostS gn (n + 1) = [0, 1, 2, 3, 4] := fun n => by
    induction n with
    | zero => rw [lostS_succ, h0]; rfl
    | succ n ih =>
      rw [lostS_succ, ih]
      have : lostF gn (n + 1) = [] := by
        have hl : ∀ f, 1 ≤ f → (erS gn f 28).length ≤ 4 := fun f hf => by
          unfold erS
          rw [List.length_map]
          simp only [hg]
          have : (List.range 28).filter (fun i => decide (f + 4 * i < 17)) = (List.range 28).filter (fun i => decide (f + 4 * i < 17) && decide (i < 4)) := by
            refine List.filter_congr (fun i _ => ?_)
            by_cases h4 : i < 4
            · simp [h4]
            · simp [h4]; omega
          rw [this, ← List.filter_filter]
          exact Nat.le_trans (List.length_filter_le _ _) (by decide)
        have h4 := hl (n + 1) (by omega)
        unfold lostF lostP
        rw [List.filter_eq_nil_iff.2 (fun i _ => by simp; omega)]
        rfl
      rw [this]; rfl
  exact hs 195
end Go.Proofs.Ytfkfdaammlffmaa
