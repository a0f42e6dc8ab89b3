import Derived.Test.YtfkfdaammlffmaaMU
import Derived.Test.YtfkfdaammlffmaaMM
/-! The erased offsets of a sector. -/
namespace Go.Proofs.Ytfkfdaammlffmaa
set_option linter.unusedVariables false
set_option linter.unusedSimpArgs false
open Go.RowKit Go.Proofs
open Go.Proofs.YtfkfdaammlffmaaW.PrintWords Go.Proofs.YtfkfdaammlffmaaW.PrintLast

set_option maxRecDepth 100000 in
set_option maxHeartbeats 2000000 in
theorem erased_any {w : World} {base t g cap : Nat} {kd en : Int} {S : List Sf} {sv lv : Value} {offs : List Int} (h : MB w base t g cap kd en S sv lv) (hS : S.length ≤ 4096) (hL : LM w base lv offs) (hoL : offs.length ≤ 20000000) (k : Nat) (hk : k < S.length) (er : Option Nat) (her : (S.getD k sf0).er = er) (le : PL) (hle : HasSet w er le) (hok : OffOk le) (hll : le.length ≤ 100000) :
    Calls Try.prog 45 #[.pointer (some ⟨t, 0, none⟩), .int .i64 k] w fun e w' => ∃ v, e = .returned v ∧ IR .i64 3 w' w.heap.size v (goneL le offs k) ∧ Below w.heap.size w w' := by
  have HC2 : Hid (∀ w', Below w.heap.size w w' → w'.cell? ⟨t, 2, none⟩ = some (.slice (some ⟨g, 0, none⟩) S.length cap)) := Lib.hid (fun w' hw' => (h.below hw').cells.2.2.1)
  have HC4 : Hid (∀ w', Below w.heap.size w w' → w'.cell? ⟨t, 4, none⟩ = some lv) := Lib.hid (fun w' hw' => (h.below hw').cells.2.2.2.2)
  have HC7 : Hid (∀ w', Below w.heap.size w w' → w'.cell? ⟨g, k * 5 + 3, none⟩ = some (.map er)) := Lib.hid (fun w' hw' => by
    obtain ⟨s, hs, d0, d1, d2, d3, d4, df⟩ := sf_cells (h.below hw').row k hk
    rw [sf_at hk] at hs
    injection hs with hs
    rw [d3, ← hs, her])
  obtain ⟨AL, cL, hIC, hcL, hlk⟩ := hL.look k (by omega) (by omega)
  have hll2 := lostAt_length offs k
  have hk0 : (0 : Int) ≤ k := by omega
  have hk1 : (k : Int) < S.length := by omega
  have HLK := Lib.hid hlk
  have HOK := Lib.hid hok
  have hz : S.length ≤ 9223372036854775807 := by omega
  have hS1 : Below w.heap.size w (w.drew.alloc (.cells #[.map er] 98)) := (below_drew1 (Below.refl _ _)).alloc (Nat.le_refl _) _
  have hle2 : HasSet w.drew er le := hle.of_block (fun _ _ => rfl)
  clear her hok h hL hle hlk
  go_enter Try.func45, Try.ntmps45
  go_wp2
  refine start_ (n := 18) (S := fun w' => Below w.heap.size w w') (ds := []) #[false, false, false, false, false, false, false, false, false, false, false, false, false, false, false, false, false, false] (by kernel_rfl) rfl rfl (below_drew1 (Below.refl _ _)) (fun hHeld => ?_)
  refine pure_ (i := 0) (N := (some 6)) (v := ?_) (a' := ?_) #[true, false, false, false, false, false, false, false, false, false, false, false, false, false, false, false, false, false] rfl rfl (by kernel_rfl) (fun _ _ _ h => h) (Or.inl ⟨by rfl, ?_⟩) ?_ ?_
  rotate_left
  · intro w'
    go_simp
    with_reducible rfl
  rotate_left
  · simp only [Act.put, List.setIfInBounds_toArray, List.set_cons_zero, List.set_cons_succ, i64_w, i32_w]
    rfl
  refine pure_ (i := 1) (N := (some 7)) (v := ?_) (a' := ?_) #[true, true, false, false, false, false, false, false, false, false, false, false, false, false, false, false, false, false] rfl rfl (by kernel_rfl) (fun _ _ _ h => h) (Or.inl ⟨by rfl, ?_⟩) ?_ ?_
  rotate_left
  · intro w'
    go_simp
    with_reducible rfl
  rotate_left
  · simp only [Act.put, List.setIfInBounds_toArray, List.set_cons_zero, List.set_cons_succ, i64_w, i32_w]
    rfl
  refine pure_ (i := 2) (N := (some 8)) (v := ?_) (a' := ?_) #[true, true, true, false, false, false, false, false, false, false, false, false, false, false, false, false, false, false] rfl rfl (by kernel_rfl) (fun _ _ _ h => h) (Or.inl ⟨by rfl, ?_⟩) ?_ ?_
  rotate_left
  · intro w'
    go_simp
    with_reducible rfl
  rotate_left
  · simp only [Act.put, List.setIfInBounds_toArray, List.set_cons_zero, List.set_cons_succ, i64_w, i32_w]
    rfl
  refine pure_ (i := 4) (N := (some 10)) (v := ?_) (a' := ?_) #[true, true, true, false, true, false, false, false, false, false, false, false, false, false, false, false, false, false] rfl rfl (by kernel_rfl) (fun _ _ _ h => h) (Or.inl ⟨by rfl, ?_⟩) ?_ ?_
  rotate_left
  · intro w'
    go_simp
    with_reducible rfl
  rotate_left
  · simp only [Act.put, List.setIfInBounds_toArray, List.set_cons_zero, List.set_cons_succ, i64_w, i32_w]
    rfl
  refine pure_ (i := 10) (N := (some 16)) (v := ?_) (a' := ?_) #[true, true, true, false, true, false, false, false, false, false, true, false, false, false, false, false, false, false] rfl rfl (by kernel_rfl) (fun _ _ _ h => h) (Or.inl ⟨by rfl, ?_⟩) ?_ ?_
  rotate_left
  · intro w'
    go_simp
    with_reducible rfl
  rotate_left
  · simp only [Act.put, List.setIfInBounds_toArray, List.set_cons_zero, List.set_cons_succ, i64_w, i32_w]
    rfl
  refine pure_ (i := 11) (N := (some 17)) (v := ?_) (a' := ?_) #[true, true, true, false, true, false, false, false, false, false, true, true, false, false, false, false, false, false] rfl rfl (by kernel_rfl) (fun _ _ _ h => h) (Or.inl ⟨by rfl, ?_⟩) ?_ ?_
  rotate_left
  · intro w'
    go_simp
    with_reducible rfl
  rotate_left
  · simp only [Act.put, List.setIfInBounds_toArray, List.set_cons_zero, List.set_cons_succ, i64_w, i32_w]
    rfl
  refine pure_ (i := 12) (N := (some 18)) (v := ?_) (a' := ?_) #[true, true, true, false, true, false, false, false, false, false, true, true, true, false, false, false, false, false] rfl rfl (by kernel_rfl) (fun _ _ _ h => h) (Or.inl ⟨by rfl, ?_⟩) ?_ ?_
  rotate_left
  · intro w'
    go_simp
    with_reducible rfl
  rotate_left
  · simp only [Act.put, List.setIfInBounds_toArray, List.set_cons_zero, List.set_cons_succ, i64_w, i32_w]
    rfl
  refine pure_ (i := 14) (N := (some 20)) (v := ?_) (a' := ?_) #[true, true, true, false, true, false, false, false, false, false, true, true, true, false, true, false, false, false] rfl rfl (by kernel_rfl) (fun _ _ _ h => h) (Or.inl ⟨by rfl, ?_⟩) ?_ ?_
  rotate_left
  · intro w'
    go_simp
    with_reducible rfl
  rotate_left
  · simp only [Act.put, List.setIfInBounds_toArray, List.set_cons_zero, List.set_cons_succ, i64_w, i32_w]
    rfl
  refine take_ (i := 3) (N := (some 9)) (v := ?_) (a' := ?_) #[true, true, true, true, true, false, false, false, false, false, true, true, true, false, true, false, false, false] rfl rfl (by kernel_rfl) (fun _ _ _ h => h) (Or.inl ⟨by rfl, ?_⟩) hHeld ?_ ?_
  rotate_left
  · rintro w' hw'
    have q := HC2.out _ hw'
    go_simp
    with_reducible rfl
  rotate_left
  · simp only [Act.put, List.setIfInBounds_toArray, List.set_cons_zero, List.set_cons_succ, i64_w, i32_w]
    rfl
  refine pure_ (i := 5) (N := (some 11)) (v := ?_) (a' := ?_) #[true, true, true, true, true, true, false, false, false, false, true, true, true, false, true, false, false, false] rfl rfl (by kernel_rfl) (fun _ _ _ h => h) (Or.inl ⟨by rfl, ?_⟩) ?_ ?_
  rotate_left
  · intro w'
    go_simp
    with_reducible rfl
  rotate_left
  · simp only [Act.put, List.setIfInBounds_toArray, List.set_cons_zero, List.set_cons_succ, i64_w, i32_w]
    rfl
  refine pure_ (i := 6) (N := (some 12)) (v := ?_) (a' := ?_) #[true, true, true, true, true, true, true, false, false, false, true, true, true, false, true, false, false, false] rfl rfl (by kernel_rfl) (fun _ _ _ h => h) (Or.inl ⟨by rfl, ?_⟩) ?_ ?_
  rotate_left
  · intro w'
    go_simp
    with_reducible rfl
  rotate_left
  · simp only [Act.put, List.setIfInBounds_toArray, List.set_cons_zero, List.set_cons_succ, i64_w, i32_w]
    rfl
  refine take_ (i := 7) (N := (some 13)) (v := ?_) (a' := ?_) #[true, true, true, true, true, true, true, true, false, false, true, true, true, false, true, false, false, false] rfl rfl (by kernel_rfl) (fun _ _ _ h => h) (Or.inl ⟨by rfl, ?_⟩) hHeld ?_ ?_
  rotate_left
  · rintro w' hw'
    have q := HC7.out _ hw'
    go_simp
    with_reducible rfl
  rotate_left
  · simp only [Act.put, List.setIfInBounds_toArray, List.set_cons_zero, List.set_cons_succ, i64_w, i32_w]
    rfl
  refine take_ (i := 13) (N := (some 19)) (v := ?_) (a' := ?_) #[true, true, true, true, true, true, true, true, false, false, true, true, true, true, true, false, false, false] rfl rfl (by kernel_rfl) (fun _ _ _ h => h) (Or.inl ⟨by rfl, ?_⟩) hHeld ?_ ?_
  rotate_left
  · rintro w' hw'
    have q := HC4.out _ hw'
    go_simp
    with_reducible rfl
  rotate_left
  · simp only [Act.put, List.setIfInBounds_toArray, List.set_cons_zero, List.set_cons_succ, i64_w, i32_w]
    rfl
  refine take_ (i := 15) (N := (some 21)) (v := .slice AL (lostAt offs k).length cL) (a' := ?_) #[true, true, true, true, true, true, true, true, false, false, true, true, true, true, true, true, false, false] rfl rfl (by kernel_rfl) (fun _ _ _ h => h) (Or.inl ⟨by rfl, ?_⟩) hHeld ?_ ?_
  · rintro w' hw'
    exact lookup_value (vm := lv) (vx := .int .i64 k) rfl (by rfl) (by rfl) (HLK.out w' hw')
  rotate_left
  · simp only [Act.put, List.setIfInBounds_toArray, List.set_cons_zero, List.set_cons_succ, i64_w, i32_w]
    rfl
  refine one_ (i := 8) (N := (some 14)) #[true, true, true, true, true, true, true, true, true, false, true, true, true, true, true, true, false, false] rfl rfl (by kernel_rfl) (by decide) (fun K hK => ?_)
  refine goes_ Try.func68 (by kernel_rfl) rfl #[.map er] (by rfl) rfl rfl (by simp only [List.map_toArray, List.map_cons, List.map_nil]; rfl) ?_
  refine (keysB_any er _).mono ?_
  rintro e w1 ⟨rfl, rfl⟩
  refine ⟨_, rfl, hK.out _ _ hS1 (fun hHeld => ?_)⟩
  clear hK K
  refine norm_ (a' := ?_) ?_ ?_
  rotate_left
  · show Act.put _ (some 14) _ = _
    simp only [Act.put, List.setIfInBounds_toArray, List.set_cons_zero, List.set_cons_succ, i64_w, i32_w]
    rfl
  refine one_ (i := 9) (N := (some 15)) #[true, true, true, true, true, true, true, true, true, true, true, true, true, true, true, true, false, false] rfl rfl (by kernel_rfl) (by decide) (fun K hK => ?_)
  refine goes_ Try.func67 (by kernel_rfl) rfl #[.func (.func 77) #[] #[.pointer (some ⟨w.drew.heap.size, 0, none⟩)]] (by rfl) rfl rfl (by simp only [List.map_toArray, List.map_cons, List.map_nil]; rfl) ?_
  refine (collectB_any er le w.drew hle2 (by omega)).mono ?_
  rintro e w2 ⟨v2, ks, rfl, hp, hR2, hB2⟩
  have hB2' : Below w.heap.size w w2 := (below_drew1 (Below.refl _ _)).trans hB2
  refine ⟨_, rfl, hK.out _ _ hB2' (fun hHeld => ?_)⟩
  clear hK K
  refine norm_ (a' := ?_) ?_ ?_
  rotate_left
  · show Act.put _ (some 15) _ = _
    simp only [Act.put, List.setIfInBounds_toArray, List.set_cons_zero, List.set_cons_succ, i64_w, i32_w]
    rfl
  refine one_ (i := 16) (N := (some 22)) #[true, true, true, true, true, true, true, true, true, true, true, true, true, true, true, true, true, false] rfl rfl (by kernel_rfl) (by decide) (fun K hK => ?_)
  have hkl : ks.length = le.length := by rw [hp.length_eq, List.length_map]
  obtain ⟨v3, w3, hrun3, hR3, hg3⟩ := append_run (base := w.heap.size) 30 hR2 (ic_below hIC hB2') rfl hB2'.size (by omega)
  have hB3 : Below w.heap.size w w3 := hB2'.grown hg3 hB2'.size (fun j hj => Kd.R_base hR2 j hj)
  refine value_ (w1 := w3) (v := v3) (by rfl) rfl (append_value (vs := v2) (vx := .slice AL (lostAt offs k).length cL) rfl (by rfl) (by rfl) hrun3) ?_
  refine hK.out _ _ hB3 (fun hHeld => ?_)
  clear hK K
  refine norm_ (a' := ?_) ?_ ?_
  rotate_left
  · show Act.put _ (some 22) _ = _
    simp only [Act.put, List.setIfInBounds_toArray, List.set_cons_zero, List.set_cons_succ, i64_w, i32_w]
    rfl
  refine one_ (i := 17) (N := (some 5)) #[true, true, true, true, true, true, true, true, true, true, true, true, true, true, true, true, true, true] rfl rfl (by kernel_rfl) (by decide) (fun K hK => ?_)
  refine value_ (w1 := w3) (v := v3) (by rfl) rfl (by go_simp) ?_
  refine hK.out _ _ hB3 (fun hHeld => ?_)
  clear hK K
  refine norm_ (a' := ?_) ?_ ?_
  rotate_left
  · show Act.put _ (some 5) _ = _
    simp only [Act.put, List.setIfInBounds_toArray, List.set_cons_zero, List.set_cons_succ, i64_w, i32_w]
    rfl
  refine done_ (by kernel_rfl) ?_
  clear hHeld
  have hBz := hB3
  have hG := gone_of (offs := offs) (i := k) hp HOK.out
  have hlen : (ks ++ lostAt offs k).length < 4611686018427387904 := by rw [List.length_append]; omega
  obtain ⟨xs, hxs⟩ : ∃ xs, ks ++ lostAt offs k = xs := ⟨_, rfl⟩
  rw [hxs] at hR3 hG hlen
  obtain ⟨n3, hn3⟩ : ∃ n3, xs.length = n3 := ⟨_, rfl⟩
  obtain ⟨A3, c3, rfl, hc3⟩ := ir_slice hR3 hn3
  have HG := Lib.hid hG
  have HLEN := Lib.hid hlen
  have HL4 : Hid ((sortS xs).length < 4611686018427387904) := Lib.hid (by rw [sortS_length]; exact hlen)
  clear hlen hc3 hrun3 hp hR2 hB2 hg3 hkl hxs hn3 hG hIC hcL hll2
  go_wp2_with fail
  refine (sort_any w.heap.size A3 n3 c3 xs _ hR3 HLEN.out).mono ?_
  rintro e w4 ⟨rfl, hR4, hg4⟩
  have hB4 := hBz.grown hg4 hBz.size (fun j hj => Kd.R_base hR3 j hj)
  clear hR3 hg4 hBz hB3
  go_wp2_with fail
  refine (compact_any w.heap.size A3 n3 c3 (sortS xs) _ hR4 HL4.out).mono ?_
  rintro e w5 ⟨v5, rfl, hR5, hg5⟩
  have hB5 := hB4.grown hg5 hB4.size (fun j hj => Kd.R_base hR4 j hj)
  rw [HG.out] at hR5
  clear hR4 hg5 hB4
  go_wp2
  go_ret
  exact ⟨_, rfl, hR5, hB5⟩
end Go.Proofs.Ytfkfdaammlffmaa
