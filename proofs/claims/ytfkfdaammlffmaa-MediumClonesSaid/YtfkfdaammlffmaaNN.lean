import Derived.Test.YtfkfdaammlffmaaNM
/-! A call is done. -/
namespace Go.Proofs.Ytfkfdaammlffmaa
set_option linter.unusedVariables false
set_option linter.unusedSimpArgs false
open Go.RowKit Go.Proofs
open Go.Proofs.YtfkfdaammlffmaaW.PrintWords Go.Proofs.YtfkfdaammlffmaaW.PrintLast

theorem After.from_ {w w1 w' : World} {base t : Nat} {M : Med} {O : Nat → Prop} (h : After w1 w' base t M O) (hb : Below w.heap.size w w1) : After w w' base t M O := by
  obtain ⟨g, cap, S, sv, lv, h1, h2, T⟩ := h
  exact ⟨g, cap, S, sv, lv, h1, fun k hk => (h2 k hk).imp id (fun h => Nat.le_trans hb.size h), (Tn.of_below hb).trans T (fun _ _ h => h)⟩
theorem small_spec {a : ActD} (h : a.small = true) : a.sl.length ≤ 8 ∧ a.el.length ≤ 200 ∧ a.cl.length ≤ 200 := by
  unfold ActD.small at h
  simp only [Bool.and_eq_true, decide_eq_true_eq] at h
  exact ⟨h.1.1, h.1.2, h.2⟩
set_option maxRecDepth 100000 in
set_option maxHeartbeats 8000000 in
theorem actM_any {w : World} {base t g cap : Nat} {M : Med} {S : List Sf} {sv lv : Value} {N : Nat} (h : MedAt w base t M g cap S sv lv) (hw : WM N M) (hN : N ≤ 100000000) (a : ActD) (hs : a.small = true) (ha : ∀ w', Below base w w' → ActOk w' a) :
    Calls Try.prog 23 #[.pointer (some ⟨t, 0, none⟩), .agg a.cells] w fun e w' => e = .returned (.int .i64 (actP M a).2) ∧ After w w' base t (actP M a).1 (Own t g S lv) := by
  obtain ⟨z1, z2, z3⟩ := small_spec hs
  have hbase : base ≤ w.heap.size := by have := h.mb.bt; have := h.mb.lt; omega
  obtain ⟨kind, at_, byte, short, sA, sc, sl, lba, eA, ec, el, cA, cc, cl⟩ := a
  simp only at z1 z2 z3
  obtain ⟨ns, hns⟩ : ∃ n, sl.length = n := ⟨_, rfl⟩
  obtain ⟨ne, hne⟩ : ∃ n, el.length = n := ⟨_, rfl⟩
  obtain ⟨nc, hnc⟩ : ∃ n, cl.length = n := ⟨_, rfl⟩
  have HNS := Lib.hid hns
  have HNE := Lib.hid hne
  have HNC := Lib.hid hnc
  have HA := Lib.hid ha
  have HW := Lib.hid hw
  obtain ⟨zz, hzz⟩ : ∃ zz, strOfNums (rawL byte (if short then 2351 else 2352)) = zz := ⟨_, rfl⟩
  have HRS : Hid (zz.size ≤ 100000) := Lib.hid (by rw [← hzz, strOfNums_size, rawL_length]; split <;> omega)
  have HZZ := Lib.hid hzz
  clear hzz
  unfold ActD.cells
  simp only
  rw [hns] at z1 ⊢
  rw [hne] at z2 ⊢
  rw [hnc] at z3 ⊢
  have hbx := heap_alloc_new w (.cells #[.int .i64 kind, .int .i64 at_, .int .i64 byte, .bool short, .slice sA ns sc, .int .i64 lba, .slice eA ne ec, .slice cA nc cc] 46)
  have hb1 : Below w.heap.size w (w.alloc (.cells #[.int .i64 kind, .int .i64 at_, .int .i64 byte, .bool short, .slice sA ns sc, .int .i64 lba, .slice eA ne ec, .slice cA nc cc] 46)) := (Below.refl _ _).alloc (Nat.le_refl _) _
  have hs1 : (w.alloc (.cells #[.int .i64 kind, .int .i64 at_, .int .i64 byte, .bool short, .slice sA ns sc, .int .i64 lba, .slice eA ne ec, .slice cA nc cc] 46)).heap.size = w.heap.size + 1 := by simp
  have h1 := h.below hb1
  clear hns hne hnc ha hw hs
  obtain ⟨w1, hw1⟩ : ∃ w1, w.alloc (.cells #[.int .i64 kind, .int .i64 at_, .int .i64 byte, .bool short, .slice sA ns sc, .int .i64 lba, .slice eA ne ec, .slice cA nc cc] 46) = w1 := ⟨_, rfl⟩
  rw [hw1] at hbx hb1 hs1 h1
  have HW1 := Lib.hid hw1
  have hbx0 : ∀ W, Below w1.heap.size w1 W → W.cell? ⟨w.heap.size, 0, none⟩ = some (.int .i64 kind) ∧ W.cell? ⟨w.heap.size, 1, none⟩ = some (.int .i64 at_) ∧ W.cell? ⟨w.heap.size, 2, none⟩ = some (.int .i64 byte) ∧ W.cell? ⟨w.heap.size, 3, none⟩ = some (.bool short) ∧ W.cell? ⟨w.heap.size, 4, none⟩ = some (.slice sA ns sc) ∧ W.cell? ⟨w.heap.size, 5, none⟩ = some (.int .i64 lba) ∧ W.cell? ⟨w.heap.size, 6, none⟩ = some (.slice eA ne ec) ∧ W.cell? ⟨w.heap.size, 7, none⟩ = some (.slice cA nc cc) := fun W hW => by
    have := (hW.block w.heap.size (by omega)).trans hbx
    simp [World.cell?, this]
  have HBX := Lib.hid hbx0
  have HOK : Hid (∀ W, Below base w1 W → ActOk W ⟨kind, at_, byte, short, sA, sc, sl, lba, eA, ec, el, cA, cc, cl⟩) := Lib.hid (fun W hW => HA.out W ((hb1.mono hbase).trans hW))
  have hbs1 : base ≤ w1.heap.size := by omega
  clear hw1 hbx hbx0
  obtain ⟨V, hV⟩ : ∃ V, actP M ⟨kind, at_, byte, short, sA, sc, sl, lba, eA, ec, el, cA, cc, cl⟩ = V := ⟨_, rfl⟩
  rw [hV]
  obtain ⟨k0, k1, k2, k3, k4, k5, k6, k7⟩ := HBX.out w1 (Below.refl _ _)
  by_cases q0 : kind = 0
  · have HV : Hid (V = recM M at_ zz) := Lib.hid (by rw [← hV, ← HZZ.out]; unfold actP actRaw; rw [if_pos q0])
    have e0 : (kind == 0) = true := by simp [q0]
    clear hV q0
    go_enter Try.func23, Try.ntmps23
    go_wp2_with fail
    rw [HW1.out]
    go_wp2
    refine start_ (n := 7) (S := fun w' => Below w1.heap.size w1 w') (ds := [5, 6]) #[false, false, false, false, false, false, false] (by kernel_rfl) rfl rfl (below_drew1 (Below.refl _ _)) (fun hHeld => ?_)
    refine pure_ (i := 0) (N := (some 9)) (v := ?_) (a' := ?_) #[true, false, false, false, false, false, false] rfl rfl (by kernel_rfl) (fun _ _ _ h => h) (Or.inl ⟨by rfl, ?_⟩) ?_ ?_
    rotate_left
    · intro w'
      go_simp
      with_reducible rfl
    rotate_left
    · simp only [Act.put, List.setIfInBounds_toArray, List.set_cons_zero, List.set_cons_succ, i64_w, i32_w]
      rfl
    refine pure_ (i := 1) (N := (some 10)) (v := ?_) (a' := ?_) #[true, true, false, false, false, false, false] rfl rfl (by kernel_rfl) (fun _ _ _ h => h) (Or.inl ⟨by rfl, ?_⟩) ?_ ?_
    rotate_left
    · intro w'
      go_simp
      with_reducible rfl
    rotate_left
    · simp only [Act.put, List.setIfInBounds_toArray, List.set_cons_zero, List.set_cons_succ, i64_w, i32_w]
      rfl
    refine take_ (i := 2) (N := (some 11)) (v := ?_) (a' := ?_) #[true, true, true, false, false, false, false] rfl rfl (by kernel_rfl) (fun _ _ _ h => h) (Or.inl ⟨by rfl, ?_⟩) hHeld ?_ ?_
    rotate_left
    · rintro w' hw'
      obtain ⟨k0, k1, k2, k3, k4, k5, k6, k7⟩ := HBX.out _ hw'
      go_simp
      with_reducible rfl
    rotate_left
    · simp only [Act.put, List.setIfInBounds_toArray, List.set_cons_zero, List.set_cons_succ, i64_w, i32_w]
      rfl
    refine take_ (i := 3) (N := (some 12)) (v := ?_) (a' := ?_) #[true, true, true, true, false, false, false] rfl rfl (by kernel_rfl) (fun _ _ _ h => h) (Or.inl ⟨by rfl, ?_⟩) hHeld ?_ ?_
    rotate_left
    · rintro w' hw'
      obtain ⟨k0, k1, k2, k3, k4, k5, k6, k7⟩ := HBX.out _ hw'
      go_simp
      with_reducible rfl
    rotate_left
    · simp only [Act.put, List.setIfInBounds_toArray, List.set_cons_zero, List.set_cons_succ, i64_w, i32_w]
      rfl
    refine one_ (i := 4) (N := (some 13)) #[true, true, true, true, true, false, false] rfl rfl (by kernel_rfl) (by decide) (fun K hK => ?_)
    refine goes_ Try.func17 (by kernel_rfl) rfl #[.agg #[.int .i64 kind, .int .i64 at_, .int .i64 byte, .bool short, .slice sA ns sc, .int .i64 lba, .slice eA ne ec, .slice cA nc cc]] (by rfl) rfl rfl (by simp only [List.map_toArray, List.map_cons, List.map_nil]; rfl) ?_
    refine (raw_any kind at_ byte lba short _ _ _ _ _ rfl).mono ?_
    rintro e w2 ⟨rfl, hb2⟩
    rw [HZZ.out]
    have hB2 : Below w1.heap.size w1 w2 := below_step (below_drew1 (Below.refl _ _)) hb2
    refine ⟨_, rfl, hK.out _ _ hB2 (fun hHeld => ?_)⟩
    clear hK K
    refine norm_ (a' := ?_) ?_ ?_
    rotate_left
    · show Act.put _ (some 13) _ = _
      simp only [Act.put, List.setIfInBounds_toArray, List.set_cons_zero, List.set_cons_succ, i64_w, i32_w]
      rfl
    refine last_ (i := 5) (N := (some 14)) #[true, true, true, true, true, true, false] rfl rfl (by kernel_rfl) (by decide) (fun K hK => ?_)
    refine goes_ Try.func11 (by kernel_rfl) rfl #[.pointer (some ⟨t, 0, none⟩), .int .i64 at_, .string zz] (by rfl) rfl rfl (by simp only [List.map_toArray, List.map_cons, List.map_nil]; rfl) ?_
    refine (recordM_any (h1.below hB2) HW.out hN at_ _ HRS.out).mono ?_
    rintro e w3 ⟨rfl, hAf⟩
    refine ⟨_, rfl, hK.out _ _ ?_⟩
    clear hK K
    refine norm_ (a' := ?_) ?_ ?_
    rotate_left
    · show Act.put _ (some 14) _ = _
      simp only [Act.put, List.setIfInBounds_toArray, List.set_cons_zero, List.set_cons_succ, i64_w, i32_w]
      rfl
    refine pure_ (i := 6) (N := (some 4)) (v := ?_) (a' := ?_) #[true, true, true, true, true, true, true] rfl rfl (by kernel_rfl) (fun _ _ _ h => h) (Or.inl ⟨by rfl, ?_⟩) ?_ ?_
    rotate_left
    · intro w'
      go_simp
      with_reducible rfl
    rotate_left
    · simp only [Act.put, List.setIfInBounds_toArray, List.set_cons_zero, List.set_cons_succ, i64_w, i32_w]
      rfl
    refine done_ (by kernel_rfl) ?_
    clear hHeld
    have hfin := (hAf.from_ hB2).from_ hb1
    go_wp2
    go_ret
    exact ⟨by rw [HV.out] <;> rfl, by rw [HV.out]; exact hfin⟩
  have e0 : (kind == 0) = false := by simp [q0]
  by_cases q1 : kind = 1
  · have HV : Hid (V = tearM M at_) := Lib.hid (by rw [← hV]; unfold actP; rw [if_neg q0, if_pos q1])
    have e1 : (kind == 1) = true := by simp [q1]
    clear hV q0 q1
    go_enter Try.func23, Try.ntmps23
    go_wp2_with fail
    rw [HW1.out]
    go_wp2_with fail
    refine (tearM_any h1 HW.out hN at_).mono ?_
    rintro e w3 ⟨rfl, hAf⟩
    have hfin := hAf.from_ hb1
    go_wp2
    go_ret
    exact ⟨by rw [HV.out] <;> rfl, by rw [HV.out]; exact hfin⟩
  have e1 : (kind == 1) = false := by simp [q1]
  by_cases q2 : kind = 2
  · have HV : Hid (V = eraM M at_) := Lib.hid (by rw [← hV]; unfold actP; rw [if_neg q0, if_neg q1, if_pos q2])
    have e2 : (kind == 2) = true := by simp [q2]
    clear hV q0 q1 q2
    go_enter Try.func23, Try.ntmps23
    go_wp2_with fail
    rw [HW1.out]
    go_wp2_with fail
    refine (eraseM_any h1 HW.out at_).mono ?_
    rintro e w3 ⟨rfl, hAf⟩
    have hfin := hAf.from_ hb1
    go_wp2
    go_ret
    exact ⟨by rw [HV.out] <;> rfl, by rw [HV.out]; exact hfin⟩
  have e2 : (kind == 2) = false := by simp [q2]
  by_cases q3 : kind = 3
  · have HV : Hid (V = scrM M sl) := Lib.hid (by rw [← hV]; unfold actP; rw [if_neg q0, if_neg q1, if_neg q2, if_pos q3])
    have e3 : (kind == 3) = true := by simp [q3]
    clear hV q0 q1 q2 q3
    go_enter Try.func23, Try.ntmps23
    go_wp2_with fail
    rw [HW1.out]
    go_wp2_with fail
    refine (scratchMed_any h1 HW.out sA sc sl ns (HOK.out _ (Below.refl _ _)).s HNS.out (by omega)).mono ?_
    rintro e w3 ⟨rfl, hAf⟩
    have hfin := hAf.from_ hb1
    go_wp2
    go_ret
    exact ⟨by rw [HV.out] <;> rfl, by rw [HV.out]; exact hfin⟩
  have e3 : (kind == 3) = false := by simp [q3]
  have HV : Hid (V = damM M lba el cl) := Lib.hid (by rw [← hV]; unfold actP; rw [if_neg q0, if_neg q1, if_neg q2, if_neg q3])
  clear hV q0 q1 q2 q3
  go_enter Try.func23, Try.ntmps23
  go_wp2_with fail
  rw [HW1.out]
  go_wp2_with fail
  refine (damageM_any h1 HW.out lba eA ne ec el cA nc cc cl HNE.out HNC.out (by omega) (by omega) (fun W hW => (HOK.out W hW).e) (fun W hW => (HOK.out W hW).c)).mono ?_
  rintro e w3 ⟨rfl, hAf⟩
  have hfin := hAf.from_ hb1
  go_wp2
  go_ret
  exact ⟨by rw [HV.out] <;> rfl, by rw [HV.out]; exact hfin⟩
end Go.Proofs.Ytfkfdaammlffmaa
