import Derived.Test.YtlifinlideiloaaDE
/-! The bad sectors. -/
namespace Go.Proofs.Ytlifinlideiloaa
set_option linter.unusedVariables false
set_option linter.unusedSimpArgs false
open Go.RowKit Go.Proofs
open Go.Proofs.YtlifinlideiloaaW.PrintWords

theorem sortS_perm (l : List Int) : (sortS l).Perm l := List.mergeSort_perm _ _
theorem sortS_sorted (l : List Int) : (sortS l).Pairwise (· ≤ ·) := by
  have := List.pairwise_mergeSort (le := fun x y : Int => decide (x ≤ y)) (fun a b c h1 h2 => by simp at *; omega) (fun a b => by simp; omega) l
  exact this.imp (fun h => by simpa using h)
theorem sorted_unique : ∀ {l₁ l₂ : List Int}, l₁.Perm l₂ → l₁.Pairwise (· ≤ ·) → l₂.Pairwise (· ≤ ·) → l₁ = l₂ := by
  intro l₁ l₂ hp h1 h2
  exact hp.eq_of_pairwise (fun a b _ _ hab hba => Int.le_antisymm hab hba) h1 h2
theorem sortS_congr {l₁ l₂ : List Int} (h : l₁.Perm l₂) : sortS l₁ = sortS l₂ :=
  sorted_unique ((sortS_perm _).trans (h.trans (sortS_perm _).symm)) (sortS_sorted _) (sortS_sorted _)

theorem strL_perm {l : PL} (hs : Srt l) {x c : Int} (h : (x, c) ∈ l) : l.Perm ((x, c) :: strL x l) := by
  induction l with
  | nil => simp at h
  | cons y l ih =>
    obtain ⟨h1, h2⟩ := List.pairwise_cons.1 hs
    rcases List.mem_cons.1 h with rfl | h
    · have : strL x ((x, c) :: l) = l := by
        unfold strL
        rw [List.filter_cons_of_neg (by simp), List.filter_eq_self.2]
        intro z hz
        have := h1 z hz
        simp only at this
        simp; omega
      rw [this]
    · have := h1 _ h
      have e : strL x (y :: l) = y :: strL x l := by
        unfold strL
        rw [List.filter_cons_of_pos (by simp only at this; simp; omega)]
      rw [e]
      exact ((ih h2 h).cons y).trans (List.Perm.swap _ _ _)

def homesL (T : Tab) (l : PL) : List Int := l.map (fun x => homeS T.P x.1)
def spareAt (T : Tab) (i : Nat) : Int := (T.B : Int) + T.P.length + i
/-- the first k spare sectors that hold no block -/
def freedL (T : Tab) (k : Nat) : List Int := ((List.range k).filter (fun i => !(blockS T (spareAt T i)).2)).map (spareAt T)
def rawBad (T : Tab) : List Int := T.P ++ homesL T T.M ++ freedL T T.u
def badS (T : Tab) : List Int := sortS (rawBad T)
theorem freedL_length (T : Tab) (k : Nat) : (freedL T k).length ≤ k := by
  unfold freedL
  rw [List.length_map]
  have := List.length_filter_le (fun i => !(blockS T (spareAt T i)).2) (List.range k)
  simpa using this
theorem freedL_succ (T : Tab) (k : Nat) : freedL T (k + 1) = if (blockS T (spareAt T k)).2 = true then freedL T k else freedL T k ++ [spareAt T k] := by
  unfold freedL
  rw [List.range_succ, List.filter_append, List.map_append]
  cases h : (blockS T (spareAt T k)).2 <;> simp [h]

/-- what every table of this claim keeps -/
structure WT (T : Tab) : Prop where
  B1 : 1 ≤ T.B
  B : T.B ≤ 4096
  P : T.P.length ≤ 256
  S : T.S ≤ 64
  u : T.u ≤ T.S
  srt : T.P.Pairwise (· < ·)
  rng : ∀ p ∈ T.P, 0 ≤ p ∧ p < (T.B : Int) + T.P.length
  msrt : Srt T.M
  key : ∀ x ∈ T.M, 0 ≤ x.1 ∧ x.1 < T.B
  val : ∀ x ∈ T.M, 0 ≤ x.2 ∧ x.2 < T.u
  inj : InjM T.M
  len : T.M.length ≤ T.u
theorem WT.val64 {T : Tab} (h : WT T) : ∀ x ∈ T.M, 0 ≤ x.2 ∧ x.2 ≤ 64 := fun x hx => by have := h.val x hx; have := h.u; have := h.S; omega
theorem WT.sle {T : Tab} (h : WT T) : T.P.Pairwise (· ≤ ·) := h.srt.imp (fun h => Int.le_of_lt h)
theorem WT.put {T : Tab} (h : WT T) {b : Int} (hb : 0 ≤ b ∧ b < T.B) (hu : T.u ≠ T.S) : WT (putT T b) where
  B1 := h.B1
  B := h.B
  P := h.P
  S := h.S
  u := by have := h.u; show T.u + 1 ≤ T.S; omega
  srt := h.srt
  rng := h.rng
  msrt := srt_putL h.msrt _ _
  key := by
    intro x hx
    rcases mem_putL.1 hx with rfl | hx
    · exact hb
    · exact h.key x hx.1
  val := by
    intro x hx
    show 0 ≤ x.2 ∧ x.2 < ((T.u + 1 : Nat) : Int)
    rcases mem_putL.1 hx with rfl | hx
    · simp; omega
    · have := h.val x hx.1; omega
  inj := by
    intro x hx y hy e
    rcases mem_putL.1 hx with rfl | hx
    · rcases mem_putL.1 hy with rfl | hy
      · rfl
      · have := h.val y hy.1; simp only at e; omega
    · rcases mem_putL.1 hy with rfl | hy
      · have := h.val x hx.1; simp only at e; omega
      · exact h.inj x hx.1 y hy.1 e
  len := by
    have h1 := putL_length b T.u T.M
    have h2 := h.len
    show (putL b T.u T.M).length ≤ T.u + 1
    omega
theorem WT.repl {T : Tab} (h : WT T) (b : Int) : WT (replS T b).1 := by
  unfold replS
  split
  · exact h
  · split
    · exact h
    · rename_i h1 h2
      exact h.put (by simpa using h1) h2
end Go.Proofs.Ytlifinlideiloaa
