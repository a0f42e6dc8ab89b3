import Derived.Test.YtfkfdaammlffmaaMS
import Derived.Test.YtfkfdaammlffmaaMSH
import Derived.Sort.OwnSortedInts
import Derived.Lib.SlicesCompact
/-! Rows that are sorted and compacted; the erased offsets of a sector in plain words. -/
namespace Go.Proofs.Ytfkfdaammlffmaa
set_option linter.unusedVariables false
set_option linter.unusedSimpArgs false
open Go.RowKit Go.Proofs
open Go.Proofs.YtfkfdaammlffmaaW.PrintWords

def sortS (xs : List Int) : List Int := xs.mergeSort fun x y => decide (x ≤ y)
theorem sortS_length (xs : List Int) : (sortS xs).length = xs.length := List.length_mergeSort xs
theorem sortS_mem (xs : List Int) (x : Int) : x ∈ sortS xs ↔ x ∈ xs := List.mem_mergeSort
theorem sortS_srt (xs : List Int) : (sortS xs).Pairwise (· ≤ ·) := by
  have := List.pairwise_mergeSort (le := fun x y : Int => decide (x ≤ y)) (by intro a b c h1 h2; simp at *; omega) (by intro a b; simp; omega) xs
  exact this.imp (fun h => by simpa using h)
theorem compactUpTo_srt {xs : List Int} (hs : xs.Pairwise (· ≤ ·)) : ∀ m, m ≤ xs.length → (Lib.compactUpTo xs.toArray m).Pairwise (· < ·) ∧ ∀ x, x ∈ Lib.compactUpTo xs.toArray m ↔ x ∈ xs.take m
  | 0, _ => by simp [Lib.compactUpTo]
  | m + 1, hm => by
    obtain ⟨h1, h2⟩ := compactUpTo_srt hs m (by omega)
    have hg : xs.toArray[m]! = xs[m] := by simp [getElem!_pos, show m < xs.length by omega]
    have hg1 : xs.toArray[m - 1]! = xs[m - 1] := by simp [getElem!_pos, show m - 1 < xs.length by omega]
    have hle : ∀ i j (hi : i < xs.length) (hj : j < xs.length), i ≤ j → xs[i] ≤ xs[j] := fun i j hi hj hij => by
      rcases Nat.lt_or_eq_of_le hij with h | h
      · exact List.pairwise_iff_getElem.1 hs i j hi hj h
      · subst h; omega
    have htk : xs.take (m + 1) = xs.take m ++ [xs[m]] := by rw [List.take_succ_eq_append_getElem (by omega)]
    rw [Lib.compactUpTo_succ]
    by_cases hk : Lib.keeps xs.toArray m = true
    · rw [if_pos hk, hg]
      refine ⟨?_, fun x => by rw [htk, List.mem_append, List.mem_append, h2]⟩
      rw [List.pairwise_append]
      refine ⟨h1, by simp, fun a ha b hb => ?_⟩
      rw [List.mem_singleton] at hb
      subst hb
      obtain ⟨i, hi, rfl⟩ := List.getElem_of_mem ((h2 a).1 ha)
      rw [List.length_take] at hi
      rw [List.getElem_take]
      unfold Lib.keeps at hk
      rw [hg, hg1] at hk
      have hk := of_decide_eq_true hk
      have a1 := hle i (m - 1) (by omega) (by omega) (by omega)
      have a2 := hle (m - 1) m (by omega) (by omega) (by omega)
      rcases hk with h | h
      · omega
      · omega
    · rw [if_neg hk]
      refine ⟨by simpa using h1, fun x => ?_⟩
      unfold Lib.keeps at hk
      rw [hg, hg1] at hk
      have hk : ¬ (m = 0 ∨ xs[m] ≠ xs[m - 1]) := fun h => hk (decide_eq_true h)
      have hm0 : m ≠ 0 := fun h => hk (.inl h)
      have he : xs[m] = xs[m - 1] := Classical.not_not.1 (fun h => hk (.inr h))
      rw [List.append_nil, h2, htk, List.mem_append]
      refine ⟨.inl, fun h => ?_⟩
      rcases h with h | h
      · exact h
      · rw [List.mem_singleton] at h
        rw [h, he]
        exact List.mem_iff_getElem.2 ⟨m - 1, by rw [List.length_take]; omega, by rw [List.getElem_take]⟩
theorem compact_srt {xs : List Int} (hs : xs.Pairwise (· ≤ ·)) : (Lib.compact xs).Pairwise (· < ·) ∧ ∀ x, x ∈ Lib.compact xs ↔ x ∈ xs := by
  have := compactUpTo_srt hs xs.length (Nat.le_refl _)
  rw [List.take_length] at this
  exact this
theorem compact_le (zs : List Int) : (Lib.compact zs).length ≤ zs.length := by
  unfold Lib.compact Lib.compactUpTo
  rw [List.length_map]
  exact Nat.le_trans (List.length_filter_le _ _) (by simp)
theorem ext_srt : ∀ {l m : List Int}, l.Pairwise (· < ·) → m.Pairwise (· < ·) → (∀ x, x ∈ l ↔ x ∈ m) → l = m
  | [], [], _, _, _ => rfl
  | [], b :: m, _, _, h => by have := (h b).2 (by simp); simp at this
  | a :: l, [], _, _, h => by have := (h a).1 (by simp); simp at this
  | a :: l, b :: m, hl, hm, h => by
    have hl' := List.pairwise_cons.1 hl
    have hm' := List.pairwise_cons.1 hm
    have hab : a = b := by
      rcases List.mem_cons.1 ((h a).1 (by simp)) with e | e
      · exact e
      · rcases List.mem_cons.1 ((h b).2 (by simp)) with e2 | e2
        · exact e2.symm
        · have := hl'.1 b e2
          have := hm'.1 a e
          omega
    subst hab
    have : l = m := ext_srt hl'.2 hm'.2 (fun x => by
      constructor
      · intro hx
        have := hl'.1 x hx
        rcases List.mem_cons.1 ((h x).1 (List.mem_cons_of_mem _ hx)) with e | e
        · omega
        · exact e
      · intro hx
        have := hm'.1 x hx
        rcases List.mem_cons.1 ((h x).2 (List.mem_cons_of_mem _ hx)) with e | e
        · omega
        · exact e)
    rw [this]

/-- the offsets of a sector that p names, in order -/
def eraL (p : Int → Bool) : List Int := ((List.range 2352).map (fun i : Nat => (i : Int))).filter p
theorem eraL_srt (p : Int → Bool) : (eraL p).Pairwise (· < ·) := by
  unfold eraL
  refine List.Pairwise.filter _ ?_
  rw [List.pairwise_map]
  exact List.pairwise_lt_range.imp (fun h => by omega)
theorem mem_eraL {p : Int → Bool} {x : Int} : x ∈ eraL p ↔ (0 ≤ x ∧ x < 2352) ∧ p x = true := by
  unfold eraL
  rw [List.mem_filter, List.mem_map]
  constructor
  · rintro ⟨⟨i, hi, rfl⟩, h⟩
    have := List.mem_range.1 hi
    exact ⟨by omega, h⟩
  · rintro ⟨⟨h1, h2⟩, h⟩
    exact ⟨⟨x.toNat, by rw [List.mem_range]; omega, by omega⟩, h⟩
theorem eraL_length (p : Int → Bool) : (eraL p).length ≤ 2352 := by
  unfold eraL
  exact Nat.le_trans (List.length_filter_le _ _) (by simp)
/-- the erased offsets: by damage (the keys of le), by scratches -/
def goneL (le : PL) (offs : List Int) (i : Int) : List Int := eraL (fun x => (look le x).isSome || (lostAt offs i).contains x)
def OffOk (le : PL) : Prop := ∀ x ∈ le, 0 ≤ x.1 ∧ x.1 < 2352
theorem lostAt_mem {offs : List Int} {i x : Int} (h : x ∈ lostAt offs i) : 0 ≤ x ∧ x < 2352 := by
  unfold lostAt at h
  obtain ⟨k, -, rfl⟩ := List.mem_map.1 h
  omega
theorem lostAt_length (offs : List Int) (i : Int) : (lostAt offs i).length ≤ offs.length := by
  unfold lostAt
  rw [List.length_map]
  exact List.length_filter_le _ _
theorem look_some_iff (l : PL) (k : Int) : (look l k).isSome = true ↔ k ∈ l.map (·.1) := by
  constructor
  · intro h
    obtain ⟨v, hv⟩ := Option.isSome_iff_exists.1 h
    exact List.mem_map.2 ⟨_, look_mem hv, rfl⟩
  · intro h
    obtain ⟨x, hx, rfl⟩ := List.mem_map.1 h
    cases hl : look l x.1 with
    | none => exact absurd hx (look_none hl x.2)
    | some v => rfl
theorem gone_of {le : PL} {offs : List Int} {i : Int} {ks : List Int} (hp : ks.Perm (le.map (·.1))) (hle : OffOk le) : Lib.compact (sortS (ks ++ lostAt offs i)) = goneL le offs i := by
  obtain ⟨h1, h2⟩ := compact_srt (sortS_srt (ks ++ lostAt offs i))
  refine ext_srt h1 (eraL_srt _) (fun x => ?_)
  rw [h2, sortS_mem, List.mem_append, hp.mem_iff]
  unfold goneL
  rw [mem_eraL, Bool.or_eq_true, look_some_iff, List.contains_iff_mem]
  constructor
  · rintro (h | h)
    · obtain ⟨y, hy, rfl⟩ := List.mem_map.1 h
      exact ⟨hle y hy, .inl h⟩
    · exact ⟨lostAt_mem h, .inr h⟩
  · exact fun h => h.2

theorem grow_nil (w : World) : Go.Sort.grow w #[] = w := by simp [Go.Sort.grow]
theorem sort_any (base : Nat) (A : Option Addr) (n c : Nat) (xs : List Int) (w : World) (h : IR .i64 3 w base (.slice A n c) xs) (hl : xs.length < 4611686018427387904) :
    Calls Try.prog 69 #[.slice A n c] w fun e w' => e = .returned (.tuple #[]) ∧ IR .i64 3 w' base (.slice A n c) (sortS xs) ∧ w.grownBy w' (Value.slice A n c).ownBlock := by
  have ho := Kd.own_of_R h
  obtain ⟨hn, -, -⟩ := ir_ic h
  subst hn
  rcases ho.2 with ⟨e0, hz⟩ | ⟨g, cap, cur, e0, hg, hb, h1, h2, h3, ht⟩
  · injection e0 with e1 e2 e3
    subst e1; subst e3
    obtain rfl : xs = [] := List.length_eq_zero_iff.1 e2
    refine (Try.slices_Sort_int_none none 0 w).mono ?_
    rintro e w' ⟨rfl, rfl⟩
    refine ⟨rfl, ?_, ⟨rfl, rfl, rfl, Nat.le_refl _, fun _ _ _ => rfl⟩⟩
    rw [show sortS [] = [] from List.mergeSort_nil]
    exact ir_nil _ _ _ _
  · injection e0 with e1 e2 e3
    subst e1; subst e3
    have hH : Go.Sort.Holds (Value.int .i64) w g 0 xs.toArray := holds_of_blockI hb (by simpa [encs] using ht)
    refine (Try.slices_Sort_int g 0 c xs w hH (Array.getElem?_eq_some_iff.1 hb).1 hl).mono ?_
    rintro e w' ⟨rfl, m, os, rfl⟩
    refine ⟨rfl, ?_, grownBy_sortedI _⟩
    have := ownsRow_sortedI (n := m) (os := os) (ts := sortS xs) (ss := xs) (sortS_length xs) hg hb h1 h2 (by simpa using h3)
    exact Kd.R_of_own (by rw [sortS_length]; exact this) (fun _ _ => trivial)
theorem compact_any (base : Nat) (A : Option Addr) (n c : Nat) (xs : List Int) (w : World) (h : IR .i64 3 w base (.slice A n c) xs) (hl : xs.length < 4611686018427387904) :
    Calls Try.prog 70 #[.slice A n c] w fun e w' => ∃ v, e = .returned v ∧ IR .i64 3 w' base v (Lib.compact xs) ∧ w.grownBy w' (Value.slice A n c).ownBlock := by
  have ho := Kd.own_of_R h
  obtain ⟨hn, -, -⟩ := ir_ic h
  subst hn
  rcases ho.2 with ⟨e0, hz⟩ | ⟨g, cap, cur, e0, hg, hb, h1, h2, h3, ht⟩
  · injection e0 with e1 e2 e3
    subst e1; subst e3
    obtain rfl : xs = [] := List.length_eq_zero_iff.1 e2
    refine (Try.slices_Compact_int_empty none 0 w).mono ?_
    rintro e w' ⟨rfl, rfl⟩
    exact ⟨_, rfl, ir_nil _ _ _ _, ⟨rfl, rfl, rfl, Nat.le_refl _, fun _ _ _ => rfl⟩⟩
  · injection e0 with e1 e2 e3
    subst e1; subst e3
    have hH : Go.Sort.Holds (Value.int .i64) w g 0 xs.toArray := holds_of_blockI hb (by simpa [encs] using ht)
    refine (Try.slices_Compact_int g 0 c xs w hH (by omega) h1).mono ?_
    rintro e w' ⟨rfl, q, rfl⟩
    have hz := compact_le xs
    have hlen : (Lib.compact xs ++ List.replicate (xs.length - (Lib.compact xs).length) (0 : Int)).length = xs.length := by rw [List.length_append, List.length_replicate]; omega
    have hr := ownsRow_sortedI (n := q) (os := #[]) (ts := Lib.compact xs ++ List.replicate (xs.length - (Lib.compact xs).length) 0) (ss := xs) hlen hg hb h1 h2 (by simpa using h3)
    have hgr := grownBy_sortedI (w := w) (g := g) (n := q) (os := #[]) (Lib.compact xs ++ List.replicate (xs.length - (Lib.compact xs).length) (0 : Int)).toArray
    rw [grow_nil] at hr hgr
    refine ⟨_, rfl, ?_, hgr⟩
    rcases hr.2 with ⟨e0, -⟩ | ⟨g', cap', cur', e0, hg', hb', h1', h2', h3', ht'⟩
    · cases e0
    · injection e0 with e1 e2 e3
      injection e1 with e1
      injection e1 with e1
      subst e1; subst e3
      refine Kd.R_of_own ⟨by simp [encs], .inr ⟨g, c, cur', rfl, hg', hb', by omega, h2', h3', ?_⟩⟩ (fun _ _ => trivial)
      have := congrArg (List.take (Lib.compact xs).length) ht'
      rw [List.take_take] at this
      simpa [encs, Nat.min_eq_left hz, List.map_append] using this
end Go.Proofs.Ytfkfdaammlffmaa
