import Derived.Test.YtlifinlideiloaaDB
import Derived.Sort.OwnSortedInts
/-! Sorting a row; a new table; replacing a block. -/
namespace Go.Proofs.Ytlifinlideiloaa
set_option linter.unusedVariables false
set_option linter.unusedSimpArgs false
open Go.RowKit Go.Proofs
open Go.Proofs.YtlifinlideiloaaW.PrintWords

def sortS (xs : List Int) : List Int := xs.mergeSort fun x y => decide (x ≤ y)
theorem sortS_length (xs : List Int) : (sortS xs).length = xs.length := List.length_mergeSort xs
theorem sort_any (base : Nat) (A : Option Addr) (n c : Nat) (xs : List Int) (w : World) (h : IR .i64 3 w base (.slice A n c) xs) (hl : xs.length < 4611686018427387904) :
    Calls Try.prog 33 #[.slice A n c] w fun e w' => e = .returned (.tuple #[]) ∧ IR .i64 3 w' base (.slice A n c) (sortS xs) ∧ w.grownBy w' (Value.slice A n c).ownBlock := by
  have ho := Kd.own_of_R h
  obtain ⟨hn, -, -⟩ := ir_ic h
  subst hn
  rcases ho.2 with ⟨e0, hz⟩ | ⟨g, cap, cur, e0, hg, hb, h1, h2, h3, ht⟩
  · injection e0 with e1 e2 e3
    subst e1; subst e3
    obtain rfl : xs = [] := List.length_eq_zero_iff.1 e2
    refine (Try.slices_Sort_int_none none 0 w).mono ?_
    rintro e w' ⟨rfl, rfl⟩
    refine ⟨rfl, ?_, ⟨rfl, rfl, rfl, Nat.le_refl _, fun _ _ _ => rfl⟩⟩
    rw [show sortS [] = [] from List.mergeSort_nil]
    exact ir_nil _ _ _ _
  · injection e0 with e1 e2 e3
    subst e1; subst e3
    have hH : Go.Sort.Holds (Value.int .i64) w g 0 xs.toArray := holds_of_blockI hb (by simpa [encs] using ht)
    refine (Try.slices_Sort_int g 0 c xs w hH (Array.getElem?_eq_some_iff.1 hb).1 hl).mono ?_
    rintro e w' ⟨rfl, m, os, rfl⟩
    refine ⟨rfl, ?_, grownBy_sortedI _⟩
    have := ownsRow_sortedI (n := m) (os := os) (ts := sortS xs) (ss := xs) (sortS_length xs) hg hb h1 h2 (by simpa using h3)
    exact Kd.R_of_own (by rw [sortS_length]; exact this) (fun _ _ => trivial)

/-- the primary defects are in place k as they must be -/
def okAt (B : Int) (P : List Int) (k : Nat) : Prop := 0 ≤ rd P k ∧ rd P k < B + P.length ∧ (0 < k → rd P ((k : Int) - 1) < rd P k)
def Valid (B S : Int) (P : List Int) : Prop := 1 ≤ B ∧ B ≤ 4096 ∧ 0 ≤ S ∧ S ≤ 64 ∧ P.length ≤ 256 ∧ ∀ k, k < P.length → okAt B P k

set_option maxRecDepth 100000 in
set_option maxHeartbeats 1000000 in
theorem new_any2 (B S : Int) (A : Option Addr) (n c : Nat) (P : List Int) (w : World) (hr : IC .i64 w A P) (hn : P.length = n) :
    Calls Try.prog 10 #[.int .i64 B, .int .i64 S, .slice A n c] w fun e w' =>
      (¬ Valid B S P ∧ e = .returned (.tuple #[.pointer none, .int .i64 1]) ∧ w = w') ∨
      (Valid B S P ∧ ∃ t m A' c', e = .returned (.tuple #[.pointer (some ⟨t, 0, none⟩), .int .i64 0]) ∧ TB w' t m A' c' ⟨B.toNat, S.toNat, 0, P, []⟩ ∧ w.heap.size ≤ t ∧ w.heap.size ≤ m ∧ (∀ a, A' = some a → w.heap.size ≤ a.block) ∧ Below w.heap.size w w') := by
  have hm := ic_max hr
  have hmm := @run_makeMap Try.prog
  by_cases h1 : B < 1
  · go_enter Try.func10, Try.ntmps10
    go_wp2
    go_ret2
    exact .inl ⟨fun h => by have := h.1; omega, rfl, rfl⟩
  by_cases h2 : 4096 < B
  · go_enter Try.func10, Try.ntmps10
    go_wp2
    go_ret2
    exact .inl ⟨fun h => by have := h.2.1; omega, rfl, rfl⟩
  by_cases h3 : S < 0
  · go_enter Try.func10, Try.ntmps10
    go_wp2
    go_ret2
    exact .inl ⟨fun h => by have := h.2.2.1; omega, rfl, rfl⟩
  by_cases h4 : 64 < S
  · go_enter Try.func10, Try.ntmps10
    go_wp2
    go_ret2
    exact .inl ⟨fun h => by have := h.2.2.2.1; omega, rfl, rfl⟩
  by_cases h5 : 256 < (n : Int)
  · go_enter Try.func10, Try.ntmps10
    go_wp2
    go_ret2
    exact .inl ⟨fun h => by have := h.2.2.2.2.1; omega, rfl, rfl⟩
  go_enter Try.func10, Try.ntmps10
  go_wp2
  go_loop [31] (fun i => ∃ k : Nat, k ≤ n ∧ i = .int .i64 k ∧ Hid (∀ j, j < k → okAt B P j)) (fun i => n - (intOf i).toNat)
  case atStart => exact ⟨0, by omega, rfl, Lib.hid (fun j h => by omega)⟩
  case round =>
    obtain ⟨k, hk, rfl, hok⟩ := hrel
    by_cases hlt : k < n
    · obtain ⟨ad, rfl, hcell⟩ := ic_cell hr k (by omega)
      by_cases g1 : rd P k < 0
      · go_wp2
        go_ret2
        exact .inl ⟨fun hv => by have := (hv.2.2.2.2.2 k (by omega)).1; omega, rfl, rfl⟩
      by_cases g2 : B + n ≤ rd P k
      · go_wp2
        go_ret2
        exact .inl ⟨fun hv => by have := (hv.2.2.2.2.2 k (by omega)).2.1; omega, rfl, rfl⟩
      by_cases g3 : 0 < k
      · obtain ⟨ad', e', hcell'⟩ := ic_cell hr (k - 1) (by omega)
        obtain rfl : ad = ad' := by injection e'
        clear e'
        rw [show ((k - 1 : Nat) : Int) = (k : Int) - 1 by omega] at hcell'
        have s1 : ((k : Int) - 1).toNat = k - 1 := by omega
        have s2 : (0 : Int) < k := by omega
        by_cases g4 : rd P k ≤ rd P ((k : Int) - 1)
        · go_wp2
          go_ret2
          exact .inl ⟨fun hv => by have := (hv.2.2.2.2.2 k (by omega)).2.2 g3; omega, rfl, rfl⟩
        · go_wp2
          go_round
          case rel => exact ⟨k + 1, by omega, by go_num, Lib.hid (fun j h => by
            by_cases e : j = k
            · subst e; exact ⟨by omega, by omega, fun _ => by omega⟩
            · exact hok.out j (by omega))⟩
          case measure => simp [intOf]; omega
      · obtain rfl : k = 0 := by omega
        simp only [Addr.add_zero', Int.ofNat_zero] at hcell g1 g2
        go_wp2
        go_round
        case rel => exact ⟨1, by omega, by go_num, Lib.hid (fun j h => by
            obtain rfl : j = 0 := by omega
            exact ⟨by simpa using g1, by have := g2; simp at this ⊢; omega, fun h => by omega⟩)⟩
        case measure => simp [intOf]; omega
    · obtain rfl : k = n := by omega
      have hv : Hid (Valid B S P) := Lib.hid ⟨by omega, by omega, by omega, by omega, by omega, fun j hj => hok.out j (by omega)⟩
      subst hn
      clear hok
      go_wp2_with (go_at_call 28; refine (clone_any A c P _ hr (by omega)).mono ?_; rintro e w1 ⟨v, rfl, hR, hb⟩; obtain ⟨A', c', rfl, hc'⟩ := ir_slice hR (n := P.length) rfl)
      go_ret2
      have hlt' := Kd.R_lt hR
      have hB : (B.toNat : Int) = B := by omega
      have hS : (S.toNat : Int) = S := by omega
      refine .inr ⟨hv.out, w1.heap.size + 1, w1.heap.size, A', c', rfl, ⟨?_, ?_, hc', ?_, by omega, ?_⟩, by have := hb.size; omega, hb.size, (fun a e => Kd.R_base hR a.block (by rw [e]; rfl)), (hb.alloc hb.size _).alloc (by have := hb.size; simp; omega) _⟩
      · simp only [hB, hS]
        have := (MapKept.heap_alloc (w1.alloc (.map #[] 0)) (.cells #[Value.int .i64 B, Value.int .i64 S, Value.int .i64 0, Value.slice A' P.length c', Value.map (some w1.heap.size)] 57)).1
        simpa using this
      · exact ic_below (ic_below (ir_ic hR).2.2 ((Below.refl _ _).alloc (Nat.le_refl _) _)) ((Below.refl _ _).alloc (Nat.le_refl _) _)
      · intro a e
        have := hlt' a.block (by rw [e]; rfl)
        simp
        omega
      · exact World.ownsMap.alloc (im_made w1 Try.prog 3 3 .i64) _
theorem new_any (B S : Int) (A : Option Addr) (n c : Nat) (P : List Int) (w : World) (hr : IC .i64 w A P) (hn : P.length = n) :
    Calls Try.prog 10 #[.int .i64 B, .int .i64 S, .slice A n c] w fun e w' =>
      (¬ Valid B S P ∧ e = .returned (.tuple #[.pointer none, .int .i64 1]) ∧ w = w') ∨
      (Valid B S P ∧ ∃ t m A' c', e = .returned (.tuple #[.pointer (some ⟨t, 0, none⟩), .int .i64 0]) ∧ TB w' t m A' c' ⟨B.toNat, S.toNat, 0, P, []⟩ ∧ w.heap.size ≤ t ∧ w.heap.size ≤ m ∧ Below w.heap.size w w') := by
  refine (new_any2 B S A n c P w hr hn).mono ?_
  rintro e w' (h | ⟨hv, t, m, A', c', he, hT, h1, h2, -, hb⟩)
  · exact .inl h
  · exact .inr ⟨hv, t, m, A', c', he, hT, h1, h2, hb⟩
end Go.Proofs.Ytlifinlideiloaa
