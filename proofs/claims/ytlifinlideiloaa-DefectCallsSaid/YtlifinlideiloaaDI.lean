import Derived.Test.YtlifinlideiloaaDH
import Derived.Test.YtlifinlideiloaaDM
/-! DefectPartition. -/
namespace Go.Proofs.Ytlifinlideiloaa
set_option linter.unusedVariables false
set_option linter.unusedSimpArgs false
open Go.RowKit Go.Proofs
open Go.Proofs.YtlifinlideiloaaW.PrintWords

/-- how often each number below N is in L -/
def cntR (N : Nat) (L : List Int) : List Int := (List.range N).map (fun s : Nat => ((L.count (s : Int) : Nat) : Int))
theorem cntR_length (N : Nat) (L : List Int) : (cntR N L).length = N := by simp [cntR]
theorem cntR_rd (N : Nat) (L : List Int) (k : Nat) (h : k < N) : rd (cntR N L) k = ((L.count (k : Int) : Nat) : Int) := by
  unfold rd cntR
  simp [List.getD_eq_getElem?_getD, h]
theorem cntR_nil (N : Nat) : cntR N [] = List.replicate N 0 := by
  unfold cntR
  apply List.ext_getElem
  · simp
  · intro i h1 h2; simp
theorem cntR_set (N : Nat) (L : List Int) (k : Nat) (h : k < N) : (cntR N L).set k (rd (cntR N L) k + 1) = cntR N (L ++ [(k : Int)]) := by
  rw [cntR_rd N L k h]
  apply List.ext_getElem
  · simp [cntR]
  · intro i h1 h2
    rw [List.getElem_set]
    simp only [cntR, List.getElem_map, List.getElem_range, List.count_append]
    by_cases e : k = i
    · subst e; simp
    · rw [if_neg e, List.count_eq_zero.2 (show (i : Int) ∉ [(k : Int)] by simp; omega)]; simp
theorem cntR_le (N : Nat) (L : List Int) (hn : L.Nodup) (k : Nat) (h : k < N) : 0 ≤ rd (cntR N L) k ∧ rd (cntR N L) k ≤ 1 := by
  rw [cntR_rd N L k h]
  have := List.nodup_iff_count.1 hn (k : Int)
  omega
/-- how many of the first k are in no list -/
def zerosR (L : List Int) (k : Nat) : Nat := ((List.range k).filter (fun i : Nat => !(L.contains (i : Int)))).length
theorem zerosR_le (L : List Int) (k : Nat) : zerosR L k ≤ k := by
  unfold zerosR
  have := List.length_filter_le (fun i : Nat => !(L.contains (i : Int))) (List.range k)
  simpa using this
theorem zerosR_succ (N : Nat) (L : List Int) (k : Nat) (h : k < N) : zerosR L (k + 1) = if rd (cntR N L) k = 0 then zerosR L k + 1 else zerosR L k := by
  rw [cntR_rd N L k h]
  unfold zerosR
  rw [List.range_succ, List.filter_append, List.length_append]
  by_cases hm : (k : Int) ∈ L
  · have := List.count_pos_iff.2 hm
    rw [if_neg (by omega)]
    simp [hm]
  · rw [if_pos (by rw [List.count_eq_zero.2 hm]; rfl)]
    simp [hm]

def physL (T : Tab) (k : Nat) : List Int := (List.range k).map (fun i : Nat => (physS T i).1)
theorem physL_succ (T : Tab) (k : Nat) : physL T (k + 1) = physL T k ++ [(physS T k).1] := by simp [physL, List.range_succ]
theorem physL_length (T : Tab) (k : Nat) : (physL T k).length = k := by simp [physL]
theorem all_nodup {T : Tab} (h : WT T) : (physL T T.B ++ badS T).Nodup := by
  rw [List.nodup_append]
  refine ⟨?_, bad_nodup h, ?_⟩
  · unfold physL
    refine List.Pairwise.map _ (fun a b hab => hab) ?_
    have : (List.range T.B).Pairwise (fun a b => a < T.B ∧ b < T.B ∧ a < b) := by
      rw [List.pairwise_iff_getElem]
      intro i j hi hj hij
      simp at hi hj ⊢
      omega
    refine this.imp (fun {a b} hab e => ?_)
    have := phys_inj h (a := a) (b := b) (by omega) (by omega) e
    omega
  · intro a ha b hb e
    subst e
    unfold physL at ha
    obtain ⟨i, hi, rfl⟩ := List.mem_map.1 ha
    exact bad_phys h (b := i) (by have := List.mem_range.1 hi; omega) hb
theorem all_range {T : Tab} (h : WT T) : ∀ s ∈ physL T T.B ++ badS T, 0 ≤ s ∧ s < ((T.B + T.P.length + T.S : Nat) : Int) := by
  intro s hs
  rcases List.mem_append.1 hs with hs | hs
  · unfold physL at hs
    obtain ⟨i, hi, rfl⟩ := List.mem_map.1 hs
    have := phys_range h (b := i) (by have := List.mem_range.1 hi; omega)
    omega
  · have := bad_range h hs
    omega
theorem all_zeros {T : Tab} (h : WT T) : zerosR (physL T T.B ++ badS T) (T.B + T.P.length + T.S) = T.S - T.u := by
  have := count_out (all_nodup h) (all_range h)
  unfold zerosR
  rw [List.length_append, physL_length, bad_length h] at this
  have := h.u
  omega
theorem repl_same (T : Tab) (b : Int) : (replS T b).1.B = T.B ∧ (replS T b).1.S = T.S ∧ (replS T b).1.P = T.P := by
  unfold replS putT
  split
  · exact ⟨rfl, rfl, rfl⟩
  · split <;> exact ⟨rfl, rfl, rfl⟩
theorem TB.other {w : World} {t m : Nat} {A : Option Addr} {c : Nat} {T : Tab} (h : TB w t m A c T) {g : Nat} (h1 : g ≠ t) (h2 : g ≠ m) (h3 : ∀ a, A = some a → a.block ≠ g) (j : Nat) (v : Value) : TB (w.setCell ⟨g, j, none⟩ v) t m A c T :=
  ⟨(Below.heap_setCell _ _ _ _ (fun e => h1 e.symm)).trans h.blk, ic_of_block h.row (fun a e => Below.heap_setCell _ _ _ _ (h3 a e)), h.cap, fun a e => ⟨(h.off a e).1, (h.off a e).2.1, by simpa using (h.off a e).2.2⟩, h.ne, im_of_block h.map (Below.heap_setCell _ _ _ _ (fun e => h2 e.symm))⟩
theorem TB.keep {w w1 : World} {t m : Nat} {A : Option Addr} {c : Nat} {T : Tab} (h : TB w t m A c T) {row : Option Nat} (hg : w.grownBy w1 row) (h1 : ∀ g, row = some g → g ≠ t) (h2 : ∀ g, row = some g → g ≠ m) (h3 : ∀ g, row = some g → ∀ a, A = some a → a.block ≠ g) : TB w1 t m A c T :=
  ⟨(hg.block t h.lt (fun e => h1 t e.symm rfl)).trans h.blk, ic_of_block h.row (fun a e => hg.block a.block (h.off a e).2.2 (fun e' => h3 _ e'.symm a e rfl)), h.cap, fun a e => ⟨(h.off a e).1, (h.off a e).2.1, Nat.lt_of_lt_of_le (h.off a e).2.2 hg.size⟩, h.ne, im_of_block h.map (hg.block m h.map.lt (fun e => h2 m e.symm rfl))⟩
end Go.Proofs.Ytlifinlideiloaa
