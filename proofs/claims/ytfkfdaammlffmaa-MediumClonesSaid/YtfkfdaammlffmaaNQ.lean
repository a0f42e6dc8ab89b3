import Derived.Test.YtfkfdaammlffmaaNP
/-! A medium is cloned. -/
namespace Go.Proofs.Ytfkfdaammlffmaa
set_option linter.unusedVariables false
set_option linter.unusedSimpArgs false
open Go.RowKit Go.Proofs
open Go.Proofs.YtfkfdaammlffmaaW.PrintWords Go.Proofs.YtfkfdaammlffmaaW.PrintLast

theorem LM.form {w : World} {base : Nat} {lv : Value} {offs : List Int} (h : LM w base lv offs) : ∃ x, lv = .map x := by
  rcases h with ⟨h, -⟩ | ⟨lb, gb, es, cl, D, h, -⟩
  · exact ⟨_, h⟩
  · exact ⟨_, h⟩
theorem hCR' {w wr w' : World} {base t g cap t' g' cap' n : Nat} {M : Med} {S Sk : List Sf} {sv lv sv' lv' : Value} (h : MedAt w base t M g cap S sv lv) (hc : CR w wr t' g' cap' M S Sk sv lv n) (hn : S.length = n) (hm : MB w' w.heap.size t' g' cap' M.kd M.en Sk sv' lv') (hbt : But t' t' wr w')
    (hp : PV w' w.heap.size sv' M.sc) (hl : LM w' w.heap.size lv' (offM M)) (hx : ∀ x, lv' = .map (some x) → wr.heap.size ≤ x) : MedAt w' w.heap.size t' M g' cap' Sk sv' lv' := by
  subst hn
  exact hc.done h.len hm hbt hp hl hx
set_option maxRecDepth 100000 in
set_option maxHeartbeats 8000000 in
theorem cloneMed_any {w : World} {base t g cap : Nat} {M : Med} {S : List Sf} {sv lv : Value} {N : Nat} (h : MedAt w base t M g cap S sv lv) (hw : WM N M) :
    Calls Try.prog 30 #[.pointer (some ⟨t, 0, none⟩)] w fun e w' => ∃ t' g' cap' S' sv' lv', e = .returned (.pointer (some ⟨t', 0, none⟩)) ∧ MedAt w' w.heap.size t' M g' cap' S' sv' lv' ∧ Below w.heap.size w w' := by
  obtain ⟨A0, k0, hsv, -, -⟩ := h.pv.reads (by have := hw.sc; omega)
  obtain ⟨ns, hns⟩ : ∃ ns, M.sc.length = ns := ⟨_, rfl⟩
  rw [hns] at hsv
  obtain ⟨lo, hlo⟩ := h.lm.form
  subst hsv
  subst hlo
  have HNS := Lib.hid hns
  clear hns
  obtain ⟨c0, c1, c2, c3, c4⟩ := h.mb.cells
  obtain ⟨n, hn⟩ : ∃ n, S.length = n := ⟨_, rfl⟩
  have hn1 : 1 ≤ n := by rw [← hn, h.len]; exact hw.n1
  have hn2 : n ≤ 4096 := by rw [← hn, h.len]; exact hw.n2
  have HN := Lib.hid hn
  have HW := Lib.hid hw
  have hb1 : Below w.heap.size w (w.alloc (.cells #[.int .i64 M.kd, .int .i64 M.en, .slice (some ⟨g, 0, none⟩) n cap, .slice A0 ns k0, .map lo] 88)) := (Below.refl _ _).alloc (Nat.le_refl _) _
  have hnew := heap_alloc_new w (.cells #[.int .i64 M.kd, .int .i64 M.en, .slice (some ⟨g, 0, none⟩) n cap, .slice A0 ns k0, .map lo] 88)
  have hs1 : (w.alloc (.cells #[.int .i64 M.kd, .int .i64 M.en, .slice (some ⟨g, 0, none⟩) n cap, .slice A0 ns k0, .map lo] 88)).heap.size = w.heap.size + 1 := by simp
  have h1 := h.below hb1
  rw [hn] at c2
  have htl : t < w.heap.size := h.mb.lt
  have c2' : (w.alloc (.cells #[.int .i64 M.kd, .int .i64 M.en, .slice (some ⟨g, 0, none⟩) n cap, .slice A0 ns k0, .map lo] 88)).cell? ⟨t, 2, none⟩ = some (.slice (some ⟨g, 0, none⟩) n cap) := (hb1.cell (show t < w.heap.size from htl)).trans c2
  clear hn hw
  go_enter Try.func30, Try.ntmps30
  go_wp2_with fail
  obtain ⟨w1, hw1⟩ : ∃ w1, w.alloc (.cells #[.int .i64 M.kd, .int .i64 M.en, .slice (some ⟨g, 0, none⟩) n cap, .slice A0 ns k0, .map lo] 88) = w1 := ⟨_, rfl⟩
  rw [hw1] at hb1 hnew hs1 h1 c2' ⊢
  clear hw1 c0 c1 c2 c3 c4 c2'
  have hrow := h1.mb.row
  refine (cloneSurf_any base g cap S w1 hrow (by rw [HN.out]; exact hn1) (by rw [HN.out]; exact hn2) n HN.out).mono ?_
  rintro e w2 ⟨g', cap', rfl, hR2, hb2⟩
  have hnew2 : w2.heap[w.heap.size]? = some (.cells #[.int .i64 M.kd, .int .i64 M.en, .slice (some ⟨g, 0, none⟩) n cap, .slice A0 ns k0, .map lo] 88 (0, 0)) := (hb2.block _ (by omega)).trans hnew
  have hgb : w1.heap.size ≤ g' := Kd.R_base hR2 g' rfl
  have d2 : w2.cell? ⟨w.heap.size, 2, none⟩ = some (.slice (some ⟨g, 0, none⟩) n cap) := by simp [World.cell?, hnew2]
  have f2 : w2.frozen? ⟨w.heap.size, 2, none⟩ = false := by simp [World.frozen?, hnew2]
  have hB2 := below_step hb1 hb2
  have hm3 : MB (w2.setCell ⟨w.heap.size, 2, none⟩ (.slice (some ⟨g', 0, none⟩) n cap')) w.heap.size w.heap.size g' cap' M.kd M.en S (.slice A0 ns k0) (.map lo) := by
    refine ⟨?_, ?_, by omega, Nat.le_refl _⟩
    · rw [HN.out]; simp [World.setCell, Array.getElem?_modify, hnew2]
    · rw [HN.out]
      exact sf_of_block (Kd.R_lower hR2 (by omega)) (fun j e => by simp [Value.ownBlock] at e; subst e; exact Below.heap_setCell _ _ _ _ (by show g' ≠ w.heap.size; omega))
  have hCR0 : CR w (w2.setCell ⟨w.heap.size, 2, none⟩ (.slice (some ⟨g', 0, none⟩) n cap')) w.heap.size g' cap' M S S (.slice A0 ns k0) (.map lo) 0 :=
    ⟨hm3, rfl, fun j hj => by omega, fun j _ => rfl, fun p b hp => by omega, fun p q b hp => by omega, hB2.setCell (Nat.le_refl _) _⟩
  have d3 : (w2.setCell ⟨w.heap.size, 2, none⟩ (.slice (some ⟨g', 0, none⟩) n cap')).cell? ⟨w.heap.size, 2, none⟩ = some (.slice (some ⟨g', 0, none⟩) n cap') := by
    have := hm3.cells.2.2.1
    rw [HN.out] at this
    exact this
  clear hnew hnew2 hR2 hb2 hB2 hm3 h1 hrow
  go_wp2
  clear d2 f2 d3
  go_loopw [18] (fun i wr => ∃ (k : Nat) (Sk : List Sf), k ≤ n ∧ i = .int .i64 k ∧ CR w wr w.heap.size g' cap' M S Sk (.slice A0 ns k0) (.map lo) k) (fun i _ => n - (Go.RowKit.intOf i).toNat)
  case atStart => exact ⟨0, S, by omega, rfl, hCR0⟩
  clear hCR0
  case round =>
    obtain ⟨k, Sk, hk, rfl, hCR⟩ := hrel
    have hskl := hCR.len
    rw [HN.out] at hskl
    have HSKL := Lib.hid hskl
    clear hskl
    by_cases hlt : k < n
    · have hk2 : k < S.length := by rw [HN.out]; exact hlt
      have hX := (h.below hCR.bl).sec k hk2
      obtain ⟨s, hs⟩ : ∃ s, S.getD k sf0 = s := ⟨_, rfl⟩
      have HSK := Lib.hid hs
      rw [hs] at hX
      obtain ⟨er, her⟩ : ∃ er, s.er = er := ⟨_, rfl⟩
      obtain ⟨ch, hch⟩ : ∃ ch, s.ch = ch := ⟨_, rfl⟩
      obtain ⟨le, hle⟩ : ∃ le, (M.L.getD k sec0).le = le := ⟨_, rfl⟩
      obtain ⟨lc, hlc⟩ : ∃ lc, (M.L.getD k sec0).lc = lc := ⟨_, rfl⟩
      have hskk : Sk[k]? = some s := by
        have h2 := hCR.hi k (Nat.le_refl _)
        rw [hs, List.getD_eq_getElem?_getD, List.getElem?_eq_getElem (by rw [HSKL.out]; exact hlt)] at h2
        rw [List.getElem?_eq_getElem (by rw [HSKL.out]; exact hlt)]
        exact congrArg some h2
      have hcells : ∀ W, Below wr.heap.size wr W → (W.cell? ⟨g', k * 5 + 3, none⟩ = some (.map er) ∧ W.frozen? ⟨g', k * 5 + 3, none⟩ = false ∧ W.cell? ⟨g', k * 5 + 4, none⟩ = some (.map ch) ∧ W.frozen? ⟨g', k * 5 + 4, none⟩ = false) := fun W hW => by
        obtain ⟨s2, hs2, d0, d1, d2, d3, d4, df⟩ := sf_cells (hCR.mb.below hW).row k (by rw [HSKL.out]; exact hlt)
        rw [hskk] at hs2
        obtain rfl := Option.some.inj hs2
        rw [her] at d3
        rw [hch] at d4
        exact ⟨d3, df 3, d4, df 4⟩
      have HP := Lib.hid hcells
      have HK3 : Hid (∀ W, Below wr.heap.size wr W → W.cell? ⟨g', k * 5 + 3, none⟩ = some (.map er)) := Lib.hid (fun W hW => (hcells W hW).1)
      have HK4 : Hid (∀ W, Below wr.heap.size wr W → W.cell? ⟨g', k * 5 + 4, none⟩ = some (.map ch)) := Lib.hid (fun W hW => (hcells W hW).2.2.1)
      have hX2 := hX
      rw [show s = s from rfl] at hX2
      have hXe := hX.er
      have hXc := hX.ch
      rw [her, hle] at hXe
      rw [hch, hlc] at hXc
      have q2 := hCR.mb.cells.2.2.1
      rw [HSKL.out] at q2
      have hkn : (k : Int) < n := by omega
      have hnz : n ≤ 9223372036854775807 := by omega
      have HLE := Lib.hid hle
      have HLC := Lib.hid hlc
      clear hs hskk hcells her hch hle hlc hX2
      go_wp2
      refine start_ (n := 18) (S := fun w' => Below wr.heap.size wr w') (ds := [14, 17]) #[false, false, false, false, false, false, false, false, false, false, false, false, false, false, false, false, false, false] (by kernel_rfl) rfl rfl (below_drew1 (Below.refl _ _)) (fun hHeld => ?_)
      refine pure_ (i := 0) (N := (some 25)) (v := ?_) (a' := ?_) #[true, false, false, false, false, false, false, false, false, false, false, false, false, false, false, false, false, false] rfl rfl (by kernel_rfl) (fun _ _ _ h => h) (Or.inl ⟨by rfl, ?_⟩) ?_ ?_
      rotate_left
      · intro w'
        go_simp
        with_reducible rfl
      rotate_left
      · simp only [Act.put, List.setIfInBounds_toArray, List.set_cons_zero, List.set_cons_succ, i64_w, i32_w]
        rfl
      refine pure_ (i := 1) (N := (some 26)) (v := ?_) (a' := ?_) #[true, true, false, false, false, false, false, false, false, false, false, false, false, false, false, false, false, false] rfl rfl (by kernel_rfl) (fun _ _ _ h => h) (Or.inl ⟨by rfl, ?_⟩) ?_ ?_
      rotate_left
      · intro w'
        go_simp
        with_reducible rfl
      rotate_left
      · simp only [Act.put, List.setIfInBounds_toArray, List.set_cons_zero, List.set_cons_succ, i64_w, i32_w]
        rfl
      refine pure_ (i := 2) (N := (some 27)) (v := ?_) (a' := ?_) #[true, true, true, false, false, false, false, false, false, false, false, false, false, false, false, false, false, false] rfl rfl (by kernel_rfl) (fun _ _ _ h => h) (Or.inl ⟨by rfl, ?_⟩) ?_ ?_
      rotate_left
      · intro w'
        go_simp
        with_reducible rfl
      rotate_left
      · simp only [Act.put, List.setIfInBounds_toArray, List.set_cons_zero, List.set_cons_succ, i64_w, i32_w]
        rfl
      refine pure_ (i := 3) (N := (some 28)) (v := ?_) (a' := ?_) #[true, true, true, true, false, false, false, false, false, false, false, false, false, false, false, false, false, false] rfl rfl (by kernel_rfl) (fun _ _ _ h => h) (Or.inl ⟨by rfl, ?_⟩) ?_ ?_
      rotate_left
      · intro w'
        go_simp
        with_reducible rfl
      rotate_left
      · simp only [Act.put, List.setIfInBounds_toArray, List.set_cons_zero, List.set_cons_succ, i64_w, i32_w]
        rfl
      refine pure_ (i := 4) (N := (some 29)) (v := ?_) (a' := ?_) #[true, true, true, true, true, false, false, false, false, false, false, false, false, false, false, false, false, false] rfl rfl (by kernel_rfl) (fun _ _ _ h => h) (Or.inl ⟨by rfl, ?_⟩) ?_ ?_
      rotate_left
      · intro w'
        go_simp
        with_reducible rfl
      rotate_left
      · simp only [Act.put, List.setIfInBounds_toArray, List.set_cons_zero, List.set_cons_succ, i64_w, i32_w]
        rfl
      refine take_ (i := 5) (N := (some 30)) (v := ?_) (a' := ?_) #[true, true, true, true, true, true, false, false, false, false, false, false, false, false, false, false, false, false] rfl rfl (by kernel_rfl) (fun _ _ _ h => h) (Or.inl ⟨by rfl, ?_⟩) hHeld ?_ ?_
      rotate_left
      · rintro w' hw'
        have q := HK3.out _ hw'
        go_simp
        with_reducible rfl
      rotate_left
      · simp only [Act.put, List.setIfInBounds_toArray, List.set_cons_zero, List.set_cons_succ, i64_w, i32_w]
        rfl
      refine pure_ (i := 7) (N := (some 32)) (v := ?_) (a' := ?_) #[true, true, true, true, true, true, false, true, false, false, false, false, false, false, false, false, false, false] rfl rfl (by kernel_rfl) (fun _ _ _ h => h) (Or.inl ⟨by rfl, ?_⟩) ?_ ?_
      rotate_left
      · intro w'
        go_simp
        with_reducible rfl
      rotate_left
      · simp only [Act.put, List.setIfInBounds_toArray, List.set_cons_zero, List.set_cons_succ, i64_w, i32_w]
        rfl
      refine pure_ (i := 8) (N := (some 33)) (v := ?_) (a' := ?_) #[true, true, true, true, true, true, false, true, true, false, false, false, false, false, false, false, false, false] rfl rfl (by kernel_rfl) (fun _ _ _ h => h) (Or.inl ⟨by rfl, ?_⟩) ?_ ?_
      rotate_left
      · intro w'
        go_simp
        with_reducible rfl
      rotate_left
      · simp only [Act.put, List.setIfInBounds_toArray, List.set_cons_zero, List.set_cons_succ, i64_w, i32_w]
        rfl
      refine pure_ (i := 9) (N := (some 34)) (v := ?_) (a' := ?_) #[true, true, true, true, true, true, false, true, true, true, false, false, false, false, false, false, false, false] rfl rfl (by kernel_rfl) (fun _ _ _ h => h) (Or.inl ⟨by rfl, ?_⟩) ?_ ?_
      rotate_left
      · intro w'
        go_simp
        with_reducible rfl
      rotate_left
      · simp only [Act.put, List.setIfInBounds_toArray, List.set_cons_zero, List.set_cons_succ, i64_w, i32_w]
        rfl
      refine take_ (i := 10) (N := (some 35)) (v := ?_) (a' := ?_) #[true, true, true, true, true, true, false, true, true, true, true, false, false, false, false, false, false, false] rfl rfl (by kernel_rfl) (fun _ _ _ h => h) (Or.inl ⟨by rfl, ?_⟩) hHeld ?_ ?_
      rotate_left
      · rintro w' hw'
        have q := HK4.out _ hw'
        go_simp
        with_reducible rfl
      rotate_left
      · simp only [Act.put, List.setIfInBounds_toArray, List.set_cons_zero, List.set_cons_succ, i64_w, i32_w]
        rfl
      refine one_ (i := 6) (N := (some 31)) #[true, true, true, true, true, true, true, true, true, true, true, false, false, false, false, false, false, false] rfl rfl (by kernel_rfl) (by decide) (fun K hK => ?_)
      refine goes_ Try.func58 (by kernel_rfl) rfl #[.map er] (by rfl) rfl rfl (by simp only [List.map_toArray, List.map_cons, List.map_nil]; rfl) ?_
      refine (cloneSet_any er le _ (hXe.below (below_drew1 (Below.refl _ _)))).mono ?_
      rintro e w4 ⟨er', rfl, he4, hb4, hne⟩
      have hB4 : Below wr.heap.size wr w4 := below_step (below_drew1 (Below.refl _ _)) hb4
      refine ⟨_, rfl, hK.out _ _ hB4 (fun hHeld => ?_)⟩
      clear hK K
      refine norm_ (a' := ?_) ?_ ?_
      rotate_left
      · show Act.put _ (some 31) _ = _
        simp only [Act.put, List.setIfInBounds_toArray, List.set_cons_zero, List.set_cons_succ, i64_w, i32_w]
        rfl
      refine one_ (i := 11) (N := (some 36)) #[true, true, true, true, true, true, true, true, true, true, true, true, false, false, false, false, false, false] rfl rfl (by kernel_rfl) (by decide) (fun K hK => ?_)
      refine goes_ Try.func59 (by kernel_rfl) rfl #[.map ch] (by rfl) rfl rfl (by simp only [List.map_toArray, List.map_cons, List.map_nil]; rfl) ?_
      refine (cloneMap_any ch lc _ (hXc.below hB4)).mono ?_
      rintro e w5 ⟨ch', rfl, hc5, hb5, hnc⟩
      have hB5 : Below wr.heap.size wr w5 := below_step hB4 hb5
      refine ⟨_, rfl, hK.out _ _ hB5 (fun hHeld => ?_)⟩
      clear hK K
      refine norm_ (a' := ?_) ?_ ?_
      rotate_left
      · show Act.put _ (some 36) _ = _
        simp only [Act.put, List.setIfInBounds_toArray, List.set_cons_zero, List.set_cons_succ, i64_w, i32_w]
        rfl
      refine pure_ (i := 12) (N := (some 37)) (v := ?_) (a' := ?_) #[true, true, true, true, true, true, true, true, true, true, true, true, true, false, false, false, false, false] rfl rfl (by kernel_rfl) (fun _ _ _ h => h) (Or.inl ⟨by rfl, ?_⟩) ?_ ?_
      rotate_left
      · intro w'
        go_simp
        with_reducible rfl
      rotate_left
      · simp only [Act.put, List.setIfInBounds_toArray, List.set_cons_zero, List.set_cons_succ, i64_w, i32_w]
        rfl
      refine pure_ (i := 13) (N := (some 38)) (v := ?_) (a' := ?_) #[true, true, true, true, true, true, true, true, true, true, true, true, true, true, false, false, false, false] rfl rfl (by kernel_rfl) (fun _ _ _ h => h) (Or.inl ⟨by rfl, ?_⟩) ?_ ?_
      rotate_left
      · intro w'
        go_simp
        with_reducible rfl
      rotate_left
      · simp only [Act.put, List.setIfInBounds_toArray, List.set_cons_zero, List.set_cons_succ, i64_w, i32_w]
        rfl
      have hst3 := HP.out w5 hB5
      refine last_ (i := 14) (N := none) #[true, true, true, true, true, true, true, true, true, true, true, true, true, true, true, false, false, false] rfl rfl (by kernel_rfl) (by decide) (fun K hK => ?_)
      refine skip_ (w1 := w5.setCell ⟨g', k * 5 + 3, none⟩ (.map er')) (by rfl) rfl ?_ ?_
      · obtain ⟨p1, p2, p3, p4⟩ := hst3
        go_simp
      refine hK.out _ _ ?_
      clear hK K
      refine pure_ (i := 15) (N := (some 39)) (v := ?_) (a' := ?_) #[true, true, true, true, true, true, true, true, true, true, true, true, true, true, true, true, false, false] rfl rfl (by kernel_rfl) (fun _ _ _ h => h) (Or.inl ⟨by rfl, ?_⟩) ?_ ?_
      rotate_left
      · intro w'
        go_simp
        with_reducible rfl
      rotate_left
      · simp only [Act.put, List.setIfInBounds_toArray, List.set_cons_zero, List.set_cons_succ, i64_w, i32_w]
        rfl
      refine pure_ (i := 16) (N := (some 40)) (v := ?_) (a' := ?_) #[true, true, true, true, true, true, true, true, true, true, true, true, true, true, true, true, true, false] rfl rfl (by kernel_rfl) (fun _ _ _ h => h) (Or.inl ⟨by rfl, ?_⟩) ?_ ?_
      rotate_left
      · intro w'
        go_simp
        with_reducible rfl
      rotate_left
      · simp only [Act.put, List.setIfInBounds_toArray, List.set_cons_zero, List.set_cons_succ, i64_w, i32_w]
        rfl
      refine last_ (i := 17) (N := none) #[true, true, true, true, true, true, true, true, true, true, true, true, true, true, true, true, true, true] rfl rfl (by kernel_rfl) (by decide) (fun K hK => ?_)
      refine skip_ (w1 := (w5.setCell ⟨g', k * 5 + 3, none⟩ (.map er')).setCell ⟨g', k * 5 + 4, none⟩ (.map ch')) (by rfl) rfl ?_ ?_
      · obtain ⟨p1, p2, p3, p4⟩ := hst3
        go_simp
      refine hK.out _ _ ?_
      clear hK K
      refine done_ (by kernel_rfl) ?_
      have hCR2 := hCR.step hk2 HSK.out hX hB4 hb5 (by rw [HLE.out]; exact he4.below hb5) (by rw [HLC.out]; exact hc5) (fun b e => hne b e) hnc
      clear hHeld hst3 hXe hXc q2 hB4 hB5 hb4 hb5 he4 hc5 hne hnc hX hCR
      go_wp2
      go_roundw
      case rel => exact ⟨k + 1, _, by omega, by go_num, hCR2⟩
      case measure => simp [Go.RowKit.intOf]; omega
    · obtain rfl : n = k := by omega
      have hM := h.below hCR.bl
      obtain ⟨c0, c1, c2, c3, c4⟩ := hM.mb.cells
      have hwl : w.heap.size < wr.heap.size := hCR.mb.lt
      have htw : t ≠ w.heap.size := by omega
      clear c0 c1 c2
      go_wp2_with fail
      refine (clonePV_any base (.slice A0 ns k0) M.sc wr hM.pv (by have := HW.out.sc; omega)).mono ?_
      rintro e w6 ⟨sv6, rfl, hP6, hb6⟩
      obtain ⟨A6, k6, hsv6, -, -⟩ := hP6.reads (by have := HW.out.sc; omega)
      rw [HNS.out] at hsv6
      subst hsv6
      have hm6 := hCR.mb.below hb6
      have hM6 := hM.below hb6
      have hblk6 := hm6.blk
      have e3 : w6.cell? ⟨w.heap.size, 3, none⟩ = some (.slice A0 ns k0) := hm6.cells.2.2.2.1
      have f3 : w6.frozen? ⟨w.heap.size, 3, none⟩ = false := by simp [World.frozen?, hblk6]
      have hbt7 : But w.heap.size w.heap.size w6 (w6.setCell ⟨w.heap.size, 3, none⟩ (.slice A6 ns k6)) := (But.refl w.heap.size w.heap.size w6).set (p := ⟨w.heap.size, 3, none⟩) rfl _
      have hm7 : MB (w6.setCell ⟨w.heap.size, 3, none⟩ (.slice A6 ns k6)) w.heap.size w.heap.size g' cap' M.kd M.en Sk (.slice A6 ns k6) (.map lo) :=
        ⟨by simp [World.setCell, Array.getElem?_modify, hblk6], sf_of_block hm6.row (fun j e => by simp [Value.ownBlock] at e; subst e; exact hbt7.block _ hm6.glt (Ne.symm hm6.ne) (Ne.symm hm6.ne)), hm6.ne, hm6.bt⟩
      have hnb : ∀ j, base ≤ j → j ≠ w.heap.size ∨ w.heap.size ≤ j := fun j _ => by omega
      have hM7 : MedAt (w6.setCell ⟨w.heap.size, 3, none⟩ (.slice A6 ns k6)) base t M g cap S (.slice A0 ns k0) (.map lo) :=
        hM6.keep (Y := fun j => j = w.heap.size) (Tn.of_but hbt7 rfl rfl) (fun j hj e => by
          have := (h.own_obj hj).1
          omega) (fun j e _ cur => by
          subst e
          exact ⟨fun h => (by rw [hblk6] at h; injection h with h; injection h with _ h; cases h), fun h => (by rw [hblk6] at h; injection h with h; injection h with _ h; cases h)⟩)
      have hP7 : PV (w6.setCell ⟨w.heap.size, 3, none⟩ (.slice A6 ns k6)) wr.heap.size (.slice A6 ns k6) M.sc := hP6.of_block (fun j e => by
        obtain ⟨hj1, hj2, -⟩ := hP6.lt j e
        exact hbt7.block j hj2 (by omega) (by omega))
      have hb67 : But w.heap.size w.heap.size wr (w6.setCell ⟨w.heap.size, 3, none⟩ (.slice A6 ns k6)) := (But.of_below hb6).trans hbt7
      obtain ⟨k0', k1', k2', k3', k4'⟩ := hM7.mb.cells
      clear hP6 hM6 hblk6 hbt7 hnb hm6 c3 c4 k0' k1' k2' k3' hM
      go_wp2_with fail
      generalize w6.setCell ⟨w.heap.size, 3, none⟩ (.slice A6 ns k6) = w7 at *
      clear e3 f3 k4'
      refine (cloneLost_any (.map lo) (offM M) base w7 hM7.lm).mono ?_
      rintro e w8 ⟨lv8, rfl, hL8, hb8, hn8⟩
      obtain ⟨lo8, hlo8⟩ := hL8.form
      subst hlo8
      have hm8 := hm7.below hb8
      have hblk8 := hm8.blk
      have e4 : w8.cell? ⟨w.heap.size, 4, none⟩ = some (.map lo) := hm8.cells.2.2.2.2
      have f4 : w8.frozen? ⟨w.heap.size, 4, none⟩ = false := by simp [World.frozen?, hblk8]
      have hbt9 : But w.heap.size w.heap.size w8 (w8.setCell ⟨w.heap.size, 4, none⟩ (.map lo8)) := (But.refl w.heap.size w.heap.size w8).set (p := ⟨w.heap.size, 4, none⟩) rfl _
      have hm9 : MB (w8.setCell ⟨w.heap.size, 4, none⟩ (.map lo8)) w.heap.size w.heap.size g' cap' M.kd M.en Sk (.slice A6 ns k6) (.map lo8) :=
        ⟨by simp [World.setCell, Array.getElem?_modify, hblk8], sf_of_block hm8.row (fun j e => by simp [Value.ownBlock] at e; subst e; exact hbt9.block _ hm8.glt (Ne.symm hm8.ne) (Ne.symm hm8.ne)), hm8.ne, hm8.bt⟩
      have hb79 : But w.heap.size w.heap.size w7 (w8.setCell ⟨w.heap.size, 4, none⟩ (.map lo8)) := (But.of_below hb8).trans hbt9
      have hw7 : wr.heap.size ≤ w7.heap.size := hb67.size
      have hP9 : PV (w8.setCell ⟨w.heap.size, 4, none⟩ (.map lo8)) w.heap.size (.slice A6 ns k6) M.sc := (hP7.of_block (fun j e => by
        obtain ⟨hj1, hj2, -⟩ := hP7.lt j e
        exact hb79.block j hj2 (by omega) (by omega))).lower (by omega)
      have hL9 : LM (w8.setCell ⟨w.heap.size, 4, none⟩ (.map lo8)) w.heap.size (.map lo8) (offM M) := (hL8.but hbt9 hblk8 (by decide)).lower (by omega)
      have hmed := hCR' h hCR HN.out hm9 (hb67.trans hb79) hP9 hL9 (fun x e => by have := hn8 x e; omega)
      have hfin : Below w.heap.size w (w8.setCell ⟨w.heap.size, 4, none⟩ (.map lo8)) := But.below hCR.bl (hb67.trans hb79) (by omega) (Nat.le_refl _) (Nat.le_refl _)
      clear hP9 hL9 hm9 hL8 hP7 hm7 hm8 hM7 hblk8 hn8 hbt9 hb79 hb67 hCR
      go_wp2
      go_ret
      exact ⟨w.heap.size, g', cap', Sk, _, _, rfl, hmed, hfin⟩
end Go.Proofs.Ytfkfdaammlffmaa
