import Derived.Test.YtfkfdaammlffmaaMZ
/-! The examples of the chapter: awake answers yes. -/
namespace Go.Proofs.Ytfkfdaammlffmaa
set_option linter.unusedVariables false
set_option linter.unusedSimpArgs false
open Go.RowKit Go.Proofs
open Go.Proofs.YtfkfdaammlffmaaW.PrintWords

theorem MB.gbase {w : World} {base t g cap : Nat} {kd en : Int} {S : List Sf} {sv lv : Value} (h : MB w base t g cap kd en S sv lv) : base ≤ g := Kd.R_base h.row g rfl
/-- a row of scratches that a literal has laid -/
theorem pv_lit (w : World) (a b : Int) : PV (w.alloc (.cells #[.int .i64 a, .int .i64 b] 36)) w.heap.size (.slice (some ⟨w.heap.size, 0, none⟩) 1 1) [(a, b)] :=
  .inr ⟨w.heap.size, 1, _, rfl, Nat.le_refl _, heap_alloc_new w _, by simp, by simp [flatP]⟩
theorem pc_lit (w : World) (a b : Int) : PC (w.alloc (.cells #[.int .i64 a, .int .i64 b] 36)) (some ⟨w.heap.size, 0, none⟩) [(a, b)] := by
  obtain ⟨A, c, e, -, h⟩ := (pv_lit w a b).reads (by simp)
  injection e with e1 e2 e3
  rw [e1]
  exact h
def zS : ByteArray := ⟨(Lib.repeatL [115] 2352).toArray⟩
theorem zS_size : zS.size = 2352 := by
  show (Lib.repeatL [115] 2352).toArray.size = 2352
  rw [List.size_toArray, Lib.repeatL_length]; rfl
def sA (n : Int) : Sf := ⟨1, n, zS, none, none⟩
theorem aw1 : recordS 2 2 (List.replicate 2 sf0) 0 zS = ([sA 1, sf0], 0) := by
  unfold recordS writeS
  rw [if_neg (by simp), if_neg (by rw [zS_size]; simp)]
  simp [sf0, sA, List.replicate]
theorem aw2 : recordS 2 2 [sA 1, sf0] 0 zS = ([sA 2, sf0], 0) := by
  unfold recordS writeS
  rw [if_neg (by simp), if_neg (by rw [zS_size]; simp)]
  simp [sf0, sA]
theorem aw3 : recordS 2 2 [sA 2, sf0] 1 zS = ([sA 2, sA 1], 0) := by
  unfold recordS writeS
  rw [if_neg (by simp), if_neg (by rw [zS_size]; simp)]
  simp [sf0, sA]
theorem aw4 : (recordS 2 2 [sA 2, sA 1] 0 zS).2 = 16 := by
  unfold recordS writeS
  rw [if_neg (by simp), if_neg (by rw [zS_size]; simp)]
  simp [sf0, sA]
theorem aw_fit : allFit [(0, 17)] (98 * ((2 : Nat) : Int) + 108) = true := by unfold allFit fitsS; decide
theorem aw_lost : lostS (goneS [((0 : Int), (17 : Int))] 304 1) 196 = [0, 1, 2, 3, 4] := by
  have e : goneS [((0 : Int), (17 : Int))] 304 1 = setS (List.replicate 304 false) 0 17 := by
    unfold goneS
    simp only [List.take_one, List.head?_cons, Option.toList_some, List.foldl_cons, List.foldl_nil]
    rfl
  rw [e]
  exact lost_awake
theorem ct_one (x : Sf) (y : Sf) (hx : 0 ≤ x.ct ∧ x.ct ≤ 100000000) (hy : 0 ≤ y.ct ∧ y.ct ≤ 100000000) : CtOk [x, y] := fun s hs => by
  rcases List.mem_cons.1 hs with rfl | hs
  · exact hx
  · rcases List.mem_cons.1 hs with rfl | hs
    · exact hy
    · cases hs
theorem aw_gone0 : goneL [] [0, 1, 2, 3, 4] 0 = [0, 1, 2, 3, 4] := by
  refine ext_srt (eraL_srt _) (by decide) (fun x => ?_)
  unfold goneL
  rw [mem_eraL, look_nil]
  simp only [Option.isSome_none, Bool.false_or]
  rw [List.contains_iff_mem, show lostAt [0, 1, 2, 3, 4] 0 = [0, 1, 2, 3, 4] by decide]
  simp only [List.mem_cons, List.not_mem_nil, or_false]
  omega
theorem aw_gone1 : goneL [] [0, 1, 2, 3, 4] 1 = [] := by
  refine ext_srt (eraL_srt _) (by simp) (fun x => ?_)
  unfold goneL
  rw [mem_eraL, look_nil, show lostAt [0, 1, 2, 3, 4] 1 = [] by decide]
  simp
theorem aw_clean : cleanT (sA 1).st [] (goneL [] [0, 1, 2, 3, 4] 1) = true := by rw [aw_gone1]; rfl
theorem repeatL_rep (c : UInt8) : ∀ n, Lib.repeatL [c] n = List.replicate n c
  | 0 => rfl
  | n + 1 => by rw [show Lib.repeatL [c] (n + 1) = [c] ++ Lib.repeatL [c] n from rfl, repeatL_rep c n]; rfl
theorem zS_list : zS.data.toList = List.replicate 2352 115 := by
  unfold zS
  rw [repeatL_rep]
theorem aw_list (n : Nat) (h : 5 ≤ n) : (readL (List.replicate n 115) [] [0, 1, 2, 3, 4]).map (fun x => UInt8.ofNat x.toNat) = [0, 0, 0, 0, 0] ++ (List.replicate n (115 : UInt8)).drop 5 := by
  apply List.ext_getElem
  · rw [List.length_map, List.length_append, List.length_drop, List.length_replicate]
    unfold readL
    rw [mkL_length, List.length_replicate]
    simp; omega
  · intro j h1 h2
    have hj : j < n := by
      rw [List.length_map] at h1
      unfold readL at h1
      rwa [mkL_length, List.length_replicate] at h1
    rw [List.getElem_map]
    unfold readL
    rw [mkL_get]
    by_cases h5 : j < 5
    · have hc : ([0, 1, 2, 3, 4] : List Int).contains (j : Int) = true := by
        rw [List.contains_iff_mem]
        simp only [List.mem_cons, List.not_mem_nil, or_false]
        omega
      rw [if_pos hc, List.getElem_append_left (by simpa using h5)]
      have : j = 0 ∨ j = 1 ∨ j = 2 ∨ j = 3 ∨ j = 4 := by omega
      rcases this with rfl | rfl | rfl | rfl | rfl <;> rfl
    · have hc : ¬ ([0, 1, 2, 3, 4] : List Int).contains (j : Int) = true := by
        rw [List.contains_iff_mem]
        simp only [List.mem_cons, List.not_mem_nil, or_false]
        omega
      rw [if_neg hc, List.getElem_append_right (by simp; omega), look_nil]
      have hr : rd (List.replicate n (115 : Int)) j = 115 := by
        simp [rd, List.getD_eq_getElem?_getD, hj]
      rw [hr]
      simp only [List.getElem_drop, List.getElem_replicate]
      rfl
theorem aw_cmp0 (n : Nat) (h : 5 ≤ n) (z : ByteArray) (hz : z.data.toList = List.replicate n 115) (hs : z.size = n) : strOfNums (readL (List.replicate n 115) [] [0, 1, 2, 3, 4]) = ⟨#[0, 0, 0, 0, 0]⟩ ++ z.extract 5 z.size := by
  have h1 : (strOfNums (readL (List.replicate n 115) [] [0, 1, 2, 3, 4])).data.toList = ((⟨#[0, 0, 0, 0, 0]⟩ : ByteArray) ++ z.extract 5 z.size).data.toList := by
    rw [strOfNums_data, aw_list n h, ByteArray.data_append, Array.toList_append, ByteArray.data_extract, Array.toList_extract, hz, hs]
    simp [List.extract]
  exact ByteArray.ext (Array.ext' h1)
theorem aw_cmp : strOfNums (readL (bytesOf zS) [] [0, 1, 2, 3, 4]) = ⟨#[0, 0, 0, 0, 0]⟩ ++ zS.extract 5 zS.size := by
  have hb : bytesOf zS = List.replicate 2352 115 := by
    unfold bytesOf
    rw [zS_list, List.map_replicate]
    rfl
  rw [hb]
  exact aw_cmp0 2352 (by omega) zS zS_list zS_size
set_option maxRecDepth 100000 in
set_option maxHeartbeats 4000000 in
theorem awake_any (w : World) : Calls Try.prog 8 #[] w fun e w' => e = .returned (.bool true) ∧ Below w.heap.size w w' := by
  go_enter Try.func8, Try.ntmps8
  go_wp2_with fail
  refine (new_any 2 2 2 w ⟨by decide, by decide, by decide, by decide, by decide⟩).mono ?_
  rintro e w1 ⟨t, g, cap, rfl, h1, hB1⟩
  have hgb := h1.gbase
  have htb := h1.bt
  go_wp2_with fail
  refine (Try.strings_Repeat ⟨#[115]⟩ 2352 _ (by decide) (by decide)).mono ?_
  rintro e w2 ⟨rfl, hb⟩
  replace h1 := h1.below hb
  replace hB1 := below_step hB1 hb
  clear hb
  obtain ⟨z, hz⟩ : ∃ z, (⟨(Lib.repeatL (⟨#[115]⟩ : ByteArray).data.toList 2352).toArray⟩ : ByteArray) = z := ⟨_, rfl⟩
  rw [hz]
  have HZ : Hid (z = zS) := Lib.hid hz.symm
  have hzl : z.size = 2352 := by rw [HZ.out]; exact zS_size
  have HZL := Lib.hid hzl
  clear hz hzl
  have KR : ∀ (S S' : List Sf) (i e' : Int), recordS 2 2 S i zS = (S', e') → S.length ≤ 4096 → CtOk S → ∀ W sv lv, MB W w.heap.size t g cap 2 2 S sv lv → Below w.heap.size w W → Calls Try.prog 11 #[.pointer (some ⟨t, 0, none⟩), .int .i64 i, .string z] W fun e w' => e = .returned (.int .i64 e') ∧ MB w' w.heap.size t g cap 2 2 S' sv lv ∧ Below w.heap.size w w' := by
    intro S S' i e' he hl hc W sv lv hW hB
    have := record_any hW hl (.inr rfl) hc i z (by rw [HZL.out]; omega)
    rw [HZ.out, he, ← HZ.out] at this
    exact this.mono (fun e w' ⟨h1, h2, h3⟩ => ⟨h1, h2, But.below hB h3 hB.size hgb hgb⟩)
  have HKR := Lib.hid KR
  have h1' : MB w2 w.heap.size t g cap 2 2 (List.replicate 2 sf0) (.slice none 0 0) (.map none) := h1
  clear KR h1
  go_wp2_with fail
  refine (HKR.out _ _ 0 0 aw1 (by simp) (ct_one _ _ (by simp [sf0]) (by simp [sf0])) _ _ _ h1' hB1).mono ?_
  rintro e w3 ⟨rfl, h3, hB3⟩
  clear h1' hB1
  go_wp2_with fail
  refine (HKR.out _ _ 0 0 aw2 (by simp) (ct_one _ _ (by simp [sA]) (by simp [sf0])) _ _ _ h3 hB3).mono ?_
  rintro e w4 ⟨rfl, h4, hB4⟩
  clear h3 hB3
  go_wp2_with fail
  refine (HKR.out _ _ 1 0 aw3 (by simp) (ct_one _ _ (by simp [sA]) (by simp [sf0])) _ _ _ h4 hB4).mono ?_
  rintro e w5 ⟨rfl, h5, hB5⟩
  clear h4 hB4
  have hbl := (Below.refl w5.heap.size w5).alloc (Nat.le_refl _) (.cells #[.int .i64 0, .int .i64 17] 36)
  have h5' := h5.below hbl
  have hB5' := below_step hB5 hbl
  have hpc := pc_lit w5 0 17
  clear h5 hB5 hbl
  go_wp2_with fail
  refine (scratchM_any h5' (PV.nil _ _) (by simp) (by simp [allFit]) (by simp) (by simp) (some ⟨w5.heap.size, 0, none⟩) 1 [(0, 17)] 1 hpc rfl (by omega) true aw_fit [0, 1, 2, 3, 4] aw_lost).mono ?_
  rintro e w6 (⟨h, -⟩ | ⟨-, h, -⟩ | ⟨-, -, rfl, sv, lv, h6, hP6, hL6, hbt⟩)
  · cases h
  · simp at h
  have hB6 := But.below hB5' hbt hB5'.size htb htb
  clear hbt hB5' h5' hpc hP6
  obtain ⟨X, hX⟩ : ∃ X, strOfNums (readL (bytesOf zS) [] [0, 1, 2, 3, 4]) = X := ⟨_, rfl⟩
  have hRT : readT (sA 2).st (sA 2).raw [] (goneL [] [0, 1, 2, 3, 4] ((0 : Nat) : Int)) = (X, [0, 1, 2, 3, 4], 0) := by
    rw [show ((0 : Nat) : Int) = 0 from rfl, aw_gone0, ← hX]
    unfold readT
    rw [if_neg (by simp [sA]), if_pos (by simp [sA])]
    rfl
  have HX := Lib.hid hX
  have HRT := Lib.hid hRT
  clear hX hRT
  go_wp2_with fail
  refine (read_in h6 (by simp) hL6 (by simp) 0 (sA 2) rfl [] [] .nil .nil (fun x h => by cases h) (fun x h => by cases h) (by simp) (fun _ => zS_size) (.inr (.inl rfl)) _ HRT.out).mono ?_
  rintro e w7 ⟨v7, rfl, hR7, hb7⟩
  obtain ⟨A7, c7, rfl, -⟩ := ir_slice hR7 (n := 5) rfl
  have h7 := h6.below hb7
  have hL7 := hL6.below hb7
  have hB7 := below_step hB6 hb7
  have hR7' : IR .i64 3 w7 w6.heap.size (.slice A7 5 c7) [0, 1, 2, 3, 4] := hR7
  have hI7 : IC .i64 w7 A7 [0, 1, 2, 3, 4] := (ir_ic hR7').2.2
  have hlit := ir_lit w7 w7.heap.size .i64 3 [0, 1, 2, 3, 4] (Nat.le_refl _) (by simp)
  have hblt : Below w7.heap.size w7 (w7.alloc (.cells (nums .i64 [0, 1, 2, 3, 4]).toArray 3)) := (Below.refl _ _).alloc (Nat.le_refl _) _
  have h8 := h7.below hblt
  have hL8 := hL7.below hblt
  have hB8 := below_step hB7 hblt
  have hI8 := ic_below hI7 hblt
  have hJ8 := (ir_ic hlit).2.2
  clear hR7 hR7' hI7 hlit hblt h7 hL7 hB7 h6 hL6 hB6 hb7
  go_wp2_with fail
  refine (equal_any A7 (some ⟨w7.heap.size, 0, none⟩) 5 c7 5 5 [0, 1, 2, 3, 4] [0, 1, 2, 3, 4] _ hI8 hJ8 rfl rfl).mono ?_
  rw [show (([0, 1, 2, 3, 4] : List Int) == [0, 1, 2, 3, 4]) = true by decide]
  rintro e w9 ⟨rfl, hq⟩
  have hb9 := drawn_below hq
  have h9 := h8.below hb9
  have hL9 := hL8.below hb9
  have hB9 := below_step hB8 hb9
  clear h8 hL8 hB8 hI8 hJ8 hq hb9
  have z5 : (5 : Int) ≤ z.size := by have := HZL.out; omega
  have z6 : z.size ≤ 2352 := by have := HZL.out; omega
  have hcmp : X.toList = (⟨#[0, 0, 0, 0, 0]⟩ ++ z.extract 5 z.size).toList := by rw [← HX.out, HZ.out, aw_cmp]
  go_wp2_with fail
  refine (clean_in h9 (by simp) hL9 (by simp) 1 (sA 1) rfl [] [] .nil .nil (fun x h => by cases h) (by simp) true aw_clean).mono ?_
  rintro e w10 ⟨rfl, hb10⟩
  have h10 := h9.below hb10
  have hB10 := below_step hB9 hb10
  clear h9 hL9 hB9 hb10
  go_wp2_with fail
  refine (state_any h10 (by simp) 0).mono ?_
  rw [show stateS [sA 2, sA 1] 0 = (1, 0) from rfl]
  rintro e w11 ⟨rfl, hb11⟩
  have h11 := h10.below hb11
  have hB11 := below_step hB10 hb11
  clear h10 hB10 hb11
  go_wp2_with fail
  refine (HKR.out _ _ 0 16 (Prod.ext rfl aw4) (by simp) (ct_one _ _ (by simp [sA]) (by simp [sA])) _ _ _ h11 hB11).mono ?_
  rintro e w12 ⟨rfl, h12, hB12⟩
  clear h11 hB11
  go_wp2
  go_ret
  exact ⟨rfl, hB12⟩
end Go.Proofs.Ytfkfdaammlffmaa
