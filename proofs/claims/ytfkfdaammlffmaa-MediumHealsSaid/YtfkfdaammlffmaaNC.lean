import Derived.Test.YtfkfdaammlffmaaNB
/-! The lost offsets of the whole surface, sector by sector. -/
namespace Go.Proofs.Ytfkfdaammlffmaa
set_option linter.unusedVariables false
set_option linter.unusedSimpArgs false
open Go.RowKit Go.Proofs
open Go.Proofs.YtfkfdaammlffmaaW.PrintWords

theorem erS_srt (gn : List Bool) (f k : Nat) : (erS gn f k).Pairwise (· < ·) := by
  unfold erS
  rw [List.pairwise_map]
  exact (List.Pairwise.filter _ List.pairwise_lt_range).imp (fun h => by omega)
theorem lostF_srt (gn : List Bool) (f : Nat) : (lostF gn f).Pairwise (· < ·) := by
  unfold lostF lostP
  rw [List.pairwise_map]
  exact (List.Pairwise.filter _ ((erS_srt gn f 28).sublist (List.take_sublist _ _))).imp (fun h => by omega)
theorem lostF_mem {gn : List Bool} {f : Nat} {x : Int} (h : x ∈ lostF gn f) : 24 * (f : Int) ≤ x ∧ x < 24 * f + 24 := by
  unfold lostF lostP at h
  obtain ⟨i, hi, rfl⟩ := List.mem_map.1 h
  obtain ⟨hi1, hi2⟩ := List.mem_filter.1 hi
  have := erS_mem (List.mem_of_mem_take hi1)
  simp only [Bool.and_eq_true, decide_eq_true_eq] at hi2
  omega
theorem lostS_srt (gn : List Bool) : ∀ n, (lostS gn n).Pairwise (· < ·)
  | 0 => by simp [lostS]
  | n + 1 => by
    rw [lostS_succ, List.pairwise_append]
    refine ⟨lostS_srt gn n, lostF_srt gn n, fun a ha b hb => ?_⟩
    have := lostS_mem ha
    have := lostF_mem hb
    omega
/-- the offsets of sector j that scratches erase, as offsets of the surface -/
def secL (offs : List Int) (j : Nat) : List Int := (goneL [] offs j).map (fun k => 2352 * (j : Int) + k)
def allL (offs : List Int) : Nat → List Int
  | 0 => []
  | i + 1 => allL offs i ++ secL offs i
theorem goneL_nil_mem {offs : List Int} {j : Nat} {k : Int} : k ∈ goneL [] offs j ↔ k ∈ lostAt offs j := by
  unfold goneL
  rw [mem_eraL, look_nil, Option.isSome_none, Bool.false_or, List.contains_iff_mem]
  exact ⟨fun h => h.2, fun h => ⟨lostAt_mem h, h⟩⟩
theorem secL_mem {offs : List Int} {j : Nat} {x : Int} : x ∈ secL offs j ↔ x ∈ offs ∧ x / 2352 = j := by
  unfold secL
  rw [List.mem_map]
  constructor
  · rintro ⟨k, hk, rfl⟩
    rw [goneL_nil_mem] at hk
    unfold lostAt at hk
    obtain ⟨y, hy, rfl⟩ := List.mem_map.1 hk
    obtain ⟨hy1, hy2⟩ := List.mem_filter.1 hy
    have hy2 : y / 2352 = (j : Int) := by simpa using hy2
    have e : 2352 * (j : Int) + y % 2352 = y := by omega
    rw [e]
    exact ⟨hy1, hy2⟩
  · rintro ⟨h1, h2⟩
    refine ⟨x % 2352, goneL_nil_mem.2 (List.mem_map.2 ⟨x, List.mem_filter.2 ⟨h1, by simpa using h2⟩, rfl⟩), by omega⟩
theorem secL_srt (offs : List Int) (j : Nat) : (secL offs j).Pairwise (· < ·) := by
  unfold secL goneL
  rw [List.pairwise_map]
  exact (eraL_srt _).imp (fun h => by omega)
theorem allL_mem {offs : List Int} {x : Int} : ∀ n, x ∈ allL offs n ↔ x ∈ offs ∧ 0 ≤ x / 2352 ∧ x / 2352 < n
  | 0 => by simp only [allL, List.not_mem_nil, false_iff]; omega
  | n + 1 => by
    unfold allL
    rw [List.mem_append, allL_mem n, secL_mem]
    constructor
    · rintro (h | h)
      · exact ⟨h.1, h.2.1, by omega⟩
      · exact ⟨h.1, by omega, by omega⟩
    · rintro ⟨h1, h2, h3⟩
      by_cases e : x / 2352 = n
      · exact .inr ⟨h1, e⟩
      · exact .inl ⟨h1, h2, by omega⟩
theorem allL_srt (offs : List Int) : ∀ n, (allL offs n).Pairwise (· < ·)
  | 0 => by simp [allL]
  | n + 1 => by
    unfold allL
    rw [List.pairwise_append]
    refine ⟨allL_srt offs n, secL_srt offs n, fun a ha b hb => ?_⟩
    have := (allL_mem n).1 ha
    have := secL_mem.1 hb
    omega
theorem allL_eq {gn : List Bool} {n : Nat} : allL (lostS gn (98 * n)) n = lostS gn (98 * n) := by
  refine ext_srt (allL_srt _ _) (lostS_srt _ _) (fun x => ?_)
  rw [allL_mem]
  refine ⟨fun h => h.1, fun h => ⟨h, ?_⟩⟩
  have := lostS_mem h
  omega
theorem allL_length (offs : List Int) : ∀ n, (allL offs n).length ≤ 2352 * n
  | 0 => by simp [allL]
  | n + 1 => by
    unfold allL secL goneL
    rw [List.length_append, List.length_map]
    have := allL_length offs n
    have := eraL_length (fun x => (look [] x).isSome || (lostAt offs n).contains x)
    omega
theorem secL_length (offs : List Int) (j : Nat) : (secL offs j).length ≤ 2352 := by
  unfold secL goneL
  rw [List.length_map]
  exact eraL_length _
theorem secL_take_succ (offs : List Int) (j m : Nat) (k : Int) (h : (goneL [] offs j)[m]? = some k) : (secL offs j).take (m + 1) = (secL offs j).take m ++ [2352 * (j : Int) + k] := by
  unfold secL
  rw [List.take_add_one, List.getElem?_map, h]
  rfl
/-- an erased byte is read as 0 -/
theorem readL_gone {raw : List Int} {lc : PL} {gn : List Int} {k : Nat} (h : (k : Int) ∈ gn) : rd (readL raw lc gn) k = 0 := by
  unfold readL
  by_cases hk : k < raw.length
  · rw [mkL_rd _ _ _ hk, if_pos (List.contains_iff_mem.2 h)]
  · simp only [rd, mkL, List.getD_eq_getElem?_getD, Int.toNat_natCast]
    rw [List.getElem?_eq_none (by simp; omega)]
    rfl
end Go.Proofs.Ytfkfdaammlffmaa
