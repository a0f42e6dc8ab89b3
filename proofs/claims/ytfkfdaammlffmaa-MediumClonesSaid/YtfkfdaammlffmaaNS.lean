import Derived.Test.YtfkfdaammlffmaaNR
/-! The law MediumClones, walked. -/
namespace Go.Proofs.Ytfkfdaammlffmaa
set_option linter.unusedVariables false
set_option linter.unusedSimpArgs false
open Go.RowKit Go.Proofs
open Go.Proofs.YtfkfdaammlffmaaW.PrintWords Go.Proofs.YtfkfdaammlffmaaW.PrintLast

set_option maxRecDepth 100000 in
set_option maxHeartbeats 16000000 in
theorem law_MediumClones (a0 : Bool) (a1 : Int) (A2 : Option Addr) (c2 : Nat) (l2 : List ActD) (A3 : Option Addr) (c3 : Nat) (l3 : List ActD) (w : World) (w1f : (Lit.int .u8 a1).wf = true) (f2 : ActsAt w A2 l2) (f3 : ActsAt w A3 l3) :
    Calls Try.prog 7 #[.bool a0, .int .u8 a1, .slice A2 l2.length c2, .slice A3 l3.length c3] w fun e w' => e = .returned (.bool true) ∧ Below w.heap.size w w' := by
  obtain ⟨p1, p2⟩ := byte_wf w1f
  obtain ⟨n2, hn2⟩ : ∃ n, l2.length = n := ⟨_, rfl⟩
  obtain ⟨n3, hn3⟩ : ∃ n, l3.length = n := ⟨_, rfl⟩
  rw [hn2, hn3]
  have hm2 : n2 ≤ 9223372036854775807 := by rw [← hn2]; exact f2.max
  have hm3 : n3 ≤ 9223372036854775807 := by rw [← hn3]; exact f3.max
  have HN2 := Lib.hid hn2
  have HN3 := Lib.hid hn3
  have F2 := Lib.hid f2
  have F3 := Lib.hid f3
  clear hn2 hn3 f2 f3 w1f
  obtain ⟨q2, hq2⟩ : ∃ q, fewS l2 = q := ⟨_, rfl⟩
  obtain ⟨q3, hq3⟩ : ∃ q, fewS l3 = q := ⟨_, rfl⟩
  have HQ2 := Lib.hid hq2
  have HQ3 := Lib.hid hq3
  clear hq2 hq3
  go_enter Try.func7, Try.ntmps7
  go_wp2_with fail
  refine (awake_any _).mono ?_
  rintro e w1 ⟨rfl, hB⟩
  go_wp2_with fail
  refine (few_any A2 n2 c2 l2 w1 (F2.out.below hB) HN2.out q2 HQ2.out).mono ?_
  rintro e w1' ⟨rfl, rfl⟩
  cases q2 with
  | false =>
    go_wp2
    go_ret
    exact ⟨rfl, hB⟩
  | true =>
  go_wp2_with fail
  refine (few_any A3 n3 c3 l3 w1 (F3.out.below hB) HN3.out q3 HQ3.out).mono ?_
  rintro e w1' ⟨rfl, rfl⟩
  cases q3 with
  | false =>
    go_wp2
    go_ret
    exact ⟨rfl, hB⟩
  | true =>
  obtain ⟨kd, hkd⟩ : ∃ kd : Int, (if a0 = true then (2 : Int) else 1) = kd := ⟨_, rfl⟩
  have hkd2 : kd = 1 ∨ kd = 2 := by rw [← hkd]; split <;> simp
  obtain ⟨n, hn⟩ : ∃ n : Nat, 1 + a1 % 6 = n := ⟨(1 + a1 % 6).toNat, by omega⟩
  have n1 : 1 ≤ n := by omega
  have n6 : n ≤ 6 := by omega
  have HNN := Lib.hid hn
  have HKD := Lib.hid hkd
  have HK2 := Lib.hid hkd2
  clear hn hkd hkd2
  go_upto_if 49 with (fail)
  go_cut [9] (fun s9 wx => s9 = .int .i64 kd ∧ wx = w1)
  case first =>
    cases a0 with
    | false =>
      go_wp2
      go_meet
      exact ⟨by rw [← HKD.out]; rfl, rfl⟩
    | true =>
      go_wp2
      go_meet
      exact ⟨by rw [← HKD.out]; rfl, rfl⟩
  case rest =>
    obtain ⟨rfl, rfl⟩ := hcut
    have hBw := hB
    have hw1 : w.heap.size ≤ wc.heap.size := hB.size
    go_wp2_with fail
    rw [HNN.out]
    refine (newMed_any kd n 4 _ ⟨HK2.out, by omega, by omega, by decide, by decide⟩).mono ?_
    rintro e w2 ⟨t, g, cap, S, sv, lv, rfl, hM, hB2⟩
    have hB := below_step hBw hB2
    have hWM0 : WM 0 (newM kd n 4) := newM_wm ⟨HK2.out, by omega, by omega, by decide, by decide⟩
    have HWM0 := Lib.hid hWM0
    have hlen0 : (newM kd n 4).L.length = n := by simp [newM]
    have HLEN0 := Lib.hid hlen0
    generalize newM kd n 4 = M0 at hM HWM0 HLEN0
    obtain ⟨hsm2, hl2⟩ := fewS_spec HQ2.out
    obtain ⟨hsm3, hl3⟩ := fewS_spec HQ3.out
    have HS2 := Lib.hid hsm2
    have HS3 := Lib.hid hsm3
    have hl2' : Hid (l2.length ≤ 40) := Lib.hid hl2
    have hl3' : Hid (l3.length ≤ 40) := Lib.hid hl3
    clear hWM0 hlen0 hsm2 hsm3 hl2 hl3 hB2 hBw
    go_wp2
    clear p1 p2
    go_loopw [68] (fun i wr => ∃ (k : Nat) (g cap : Nat) (S : List Sf) (sv lv : Value), k ≤ n2 ∧ i = .int .i64 k ∧ MedAt wr wc.heap.size t (actsP M0 (l2.take k)) g cap S sv lv ∧ Below w.heap.size w wr) (fun i _ => n2 - (Go.RowKit.intOf i).toNat)
    case atStart => exact ⟨0, g, cap, S, sv, lv, by omega, rfl, by rw [List.take_zero]; exact hM, hB⟩
    clear hM hB
    case round =>
      obtain ⟨k, g, cap, S, sv, lv, hk, rfl, hM, hB⟩ := hrel
      by_cases hlt : k < n2
      · have hkl : k < l2.length := by rw [HN2.out]; exact hlt
        obtain ⟨a, ha⟩ : ∃ a, l2[k] = a := ⟨_, rfl⟩
        obtain ⟨b0, o0, rfl, c0, c1, c2', c3', c4, c5, c6, c7⟩ := (F2.out.below hB).cells8 hkl ha
        have hsa := HS2.out a (by rw [← ha]; exact List.getElem_mem hkl)
        have hoa := F2.out.ok a (by rw [← ha]; exact List.getElem_mem hkl)
        have HSA := Lib.hid hsa
        have HOA := Lib.hid hoa
        have HTK : Hid (actsP M0 (l2.take (k + 1)) = (actP (actsP M0 (l2.take k)) a).1) := Lib.hid (by rw [acts_take hkl, ha])
        have hkn : (k : Int) < n2 := by omega
        have hba := alloc_cells (w := wr) a
        have hM1 := hM.below hba
        have hB1 := below_step hB hba
        clear hsa hoa ha hkl hM hB
        go_wp2_with fail
        refine (act_step w hw1 hM1 (takes_wm HWM0.out l2 k hl2'.out) (by decide) hB1 a HSA.out HOA.out).mono ?_
        rintro e w4 ⟨rfl, hAf⟩
        have hB4 := Tn.of_own hAf hB1 (fun j hj => Nat.le_trans hw1 (hM1.own_obj hj).2.1) hB1.size
        obtain ⟨g4, cap4, S4, sv4, lv4, hM4⟩ := hAf.of_below
        rw [← HTK.out] at hM4
        clear hAf hM1 hB1 hba c0 c1 c2' c3' c4 c5 c6 c7
        go_wp2
        go_roundw
        case rel => exact ⟨k + 1, g4, cap4, S4, sv4, lv4, by omega, by go_num, hM4, hB4⟩
        case measure => simp [Go.RowKit.intOf]; omega
      · obtain rfl : n2 = k := by omega
        have hWM1 : WM 40 (actsP M0 (l2.take n2)) := takes_wm HWM0.out l2 n2 hl2'.out
        have hlen1 : (actsP M0 (l2.take n2)).L.length = n := by rw [actsP_len]; exact HLEN0.out
        generalize actsP M0 (l2.take n2) = M1 at hM hWM1 hlen1
        have HWM1 := Lib.hid hWM1
        have HLEN1 := Lib.hid hlen1
        clear hWM1 hlen1
        generalize wr = w4 at *
        go_wp2_with fail
        refine (cloneMed_any hM HWM1.out).mono ?_
        rintro e w5 ⟨tc, gc, capc, Sc, svc, lvc, rfl, hC, hb5⟩
        have hM5 := hM.below hb5
        have hB5 := below_step hB hb5
        have hoM : ∀ j, Own t g S lv j → j < w4.heap.size := fun j hj => (hM.own_obj hj).1
        have hs4 := hB.size
        have hs5 := hb5.size
        clear hM hB hb5
        go_wp2_with fail
        refine (cloneMed_any hM5 HWM1.out).mono ?_
        rintro e w6 ⟨td, gd, capd, Sd, svd, lvd, rfl, hD, hb6⟩
        have hM6 := hM5.below hb6
        have hC6 := hC.below hb6
        have hB6 := below_step hB5 hb6
        have hoC : ∀ j, Own tc gc Sc lvc j → w4.heap.size ≤ j ∧ j < w5.heap.size := fun j hj => ⟨(hC.own_obj hj).2.1, (hC.own_obj hj).1⟩
        have hoD : ∀ j, Own td gd Sd lvd j → w5.heap.size ≤ j ∧ j < w6.heap.size := fun j hj => ⟨(hD.own_obj hj).2.1, (hD.own_obj hj).1⟩
        have hs6 := hb6.size
        have HOM := Lib.hid hoM
        have HOC := Lib.hid hoC
        have HOD := Lib.hid hoD
        have hw4 : w.heap.size ≤ w4.heap.size := hs4
        have hw5 : w.heap.size ≤ w5.heap.size := Nat.le_trans hs4 hs5
        clear hM5 hC hB5 hb6 hoM hoC hoD
        go_wp2
        go_loopw [88] (fun i wr => ∃ k : Nat, k ≤ n3 ∧ i = .int .i64 k ∧ After w6 wr w4.heap.size tc (actsP M1 (l3.take k)) (Own tc gc Sc lvc) ∧ Below w.heap.size w wr) (fun i _ => n3 - (Go.RowKit.intOf i).toNat)
        case atStart => exact ⟨0, by omega, rfl, by rw [List.take_zero]; exact After.refl_ hC6, hB6⟩
        case round =>
          obtain ⟨k, hk, rfl, hAft, hB⟩ := hrel
          obtain ⟨g7, cap7, S7, sv7, lv7, hC7, hsub, T⟩ := hAft
          by_cases hlt : k < n3
          · have hkl : k < l3.length := by rw [HN3.out]; exact hlt
            obtain ⟨a, ha⟩ : ∃ a, l3[k] = a := ⟨_, rfl⟩
            obtain ⟨b0, o0, rfl, c0, c1, c2', c3', c4, c5, c6, c7⟩ := (F3.out.below hB).cells8 hkl ha
            have hsa := HS3.out a (by rw [← ha]; exact List.getElem_mem hkl)
            have hoa := F3.out.ok a (by rw [← ha]; exact List.getElem_mem hkl)
            have HSA := Lib.hid hsa
            have HOA := Lib.hid hoa
            have HTK : Hid (actsP M1 (l3.take (k + 1)) = (actP (actsP M1 (l3.take k)) a).1) := Lib.hid (by rw [acts_take hkl, ha])
            have hkn : (k : Int) < n3 := by omega
            have hba := alloc_cells (w := wr) a
            have hM1 := hC7.below hba
            have hB1 := below_step hB hba
            clear hsa hoa ha hkl hC7 hB
            go_wp2_with fail
            refine (act_step w hw4 hM1 (takes_wm HWM1.out l3 k hl3'.out) (by decide) hB1 a HSA.out HOA.out).mono ?_
            rintro e w8 ⟨rfl, hAf⟩
            have hB4 := Tn.of_own hAf hB1 (fun j hj => Nat.le_trans hw4 (hM1.own_obj hj).2.1) hB1.size
            have hAf2 := After.comp hsub T (hAf.from_ hba)
            rw [← HTK.out] at hAf2
            clear hAf hM1 hB1 hba c0 c1 c2' c3' c4 c5 c6 c7 hsub T
            go_wp2
            go_roundw
            case rel => exact ⟨k + 1, by omega, by go_num, hAf2, hB4⟩
            case measure => simp [Go.RowKit.intOf]; omega
          · obtain rfl : n3 = k := by omega
            have hM7 := hM6.other hC6 T (fun j h1 h2 => by have := HOM.out j h1; have := (HOC.out j h2).1; omega)
            have hD7 := hD.other hC6 T (fun j h1 h2 => by have := (HOD.out j h1).1; have := (HOC.out j h2).2; omega)
            have hoC7 : ∀ j, Own tc g7 S7 lv7 j → w4.heap.size ≤ j ∧ (j < w5.heap.size ∨ w6.heap.size ≤ j) := fun j hj => by
              rcases hsub j hj with h1 | h1
              · exact ⟨(HOC.out j h1).1, .inl (HOC.out j h1).2⟩
              · exact ⟨by omega, .inr h1⟩
            have HOC7 := Lib.hid hoC7
            have hs7 := T.size
            have hl3n : l3.take n3 = l3 := List.take_of_length_le (by rw [HN3.out]; exact Nat.le_refl _)
            rw [hl3n] at hC7
            clear hM6 hC6 hD hB6 hsub T hoC7 hl3n hlt
            generalize wr = w7 at *
            go_wp2
            go_loopw [97] (fun i wr => ∃ k : Nat, k ≤ n ∧ i = .int .i64 k ∧ Below w7.heap.size w7 wr) (fun i _ => n - (Go.RowKit.intOf i).toNat)
            case atStart => exact ⟨0, by omega, rfl, Below.refl _ _⟩
            case round =>
              obtain ⟨k, hk2, rfl, hb⟩ := hrel
              by_cases hlt2 : k < n
              · obtain ⟨R, hR⟩ : ∃ R, readM M1 (k : Int) = R := ⟨_, rfl⟩
                obtain ⟨Q, hQ⟩ : ∃ Q, countM M1 (k : Int) = Q := ⟨_, rfl⟩
                obtain ⟨X, G, er⟩ := R
                obtain ⟨cn, ce⟩ := Q
                have HR := Lib.hid hR
                have HQ := Lib.hid hQ
                obtain ⟨ng, hng⟩ : ∃ ng, G.length = ng := ⟨_, rfl⟩
                have HNG := Lib.hid hng
                have hMr := hM7.below hb
                clear hR hQ hng
                go_wp2_with fail
                refine (readM_any hMr HWM1.out k _ HR.out).mono ?_
                rintro e y1 ⟨v1, rfl, hR1, hb1⟩
                obtain ⟨B1, d1, rfl, -⟩ := ir_slice hR1 HNG.out
                have hbb1 := below_step hb hb1
                have hDr := hD7.below hbb1
                have hI1 : IC .i64 y1 B1 G := (ir_ic hR1).2.2
                clear hMr hb hb1 hR1
                go_wp2_with fail
                refine (readM_any hDr HWM1.out k _ HR.out).mono ?_
                rintro e y2 ⟨v2, rfl, hR2, hb2⟩
                obtain ⟨B2, d2, rfl, -⟩ := ir_slice hR2 HNG.out
                have hbb2 := below_step hbb1 hb2
                have hI1' := ic_below hI1 hb2
                have hI2 : IC .i64 y2 B2 G := (ir_ic hR2).2.2
                have hMr := hM7.below hbb2
                clear hDr hbb1 hb2 hR2 hI1
                go_wp2_with fail
                refine (countM_any hMr HWM1.out k).mono ?_
                rw [HQ.out]
                rintro e y3 ⟨rfl, hb3⟩
                have hbb3 := below_step hbb2 hb3
                have hI1 := ic_below hI1' hb3
                have hI2' := ic_below hI2 hb3
                have hDr := hD7.below hbb3
                clear hMr hbb2 hb3 hI1' hI2
                go_wp2_with fail
                refine (countM_any hDr HWM1.out k).mono ?_
                rw [HQ.out]
                rintro e y4 ⟨rfl, hb4⟩
                have hbb4 := below_step hbb3 hb4
                have hI1' := ic_below hI1 hb4
                have hI2 := ic_below hI2' hb4
                have e1 : (er != er) = false := by simp
                have e2 : (cn != cn) = false := by simp
                clear hDr hbb3 hb4 hI1 hI2'
                go_wp2_with fail
                refine (equal_any B1 B2 ng d1 ng d2 G G _ hI1' hI2 HNG.out HNG.out).mono ?_
                rw [show (G == G) = true by simp]
                rintro e y5 ⟨rfl, hq⟩
                have hbb5 := below_step hbb4 (drawn_below hq)
                clear hq hI1' hI2 hbb4
                go_wp2
                go_roundw
                case rel => exact ⟨k + 1, by omega, by go_num, hbb5⟩
                case measure => simp [Go.RowKit.intOf]; omega
              · obtain rfl : n = k := by omega
                have hM10 := hM7.below hb
                have hD10 := hD7.below hb
                have hC10 := hC7.below hb
                have hB10 : Below w.heap.size w wr := below_step hB hb
                have hs10 := hb.size
                clear hM7 hD7 hC7 hb hB hlt2
                generalize wr = w10 at *
                have hdis0 : ∀ j, Own t g S lv j → ¬ Own td gd Sd lvd j := fun j h1 h2 => by have := HOM.out j h1; have := (HOD.out j h2).1; omega
                go_wp2
                go_loopw [148] (fun i wr => ∃ (k gm capm : Nat) (Sm : List Sf) (svm lvm : Value) (ge cape : Nat) (Se : List Sf) (sve lve : Value), k ≤ n3 ∧ i = .int .i64 k ∧ MedAt wr wc.heap.size t (actsP M1 (l3.take k)) gm capm Sm svm lvm ∧ MedAt wr w5.heap.size td (actsP M1 (l3.take k)) ge cape Se sve lve ∧ Hid (∀ j, Own t gm Sm lvm j → ¬ Own td ge Se lve j) ∧
                  Hid (∀ j, Own t gm Sm lvm j → Own t g S lv j ∨ w10.heap.size ≤ j) ∧ Hid (∀ j, Own td ge Se lve j → Own td gd Sd lvd j ∨ w10.heap.size ≤ j) ∧ Tn (fun j => Own t g S lv j ∨ Own td gd Sd lvd j) w10 wr ∧ Below w.heap.size w wr) (fun i _ => n3 - (Go.RowKit.intOf i).toNat)
                case atStart => exact ⟨0, g, cap, S, sv, lv, gd, capd, Sd, svd, lvd, by omega, rfl, by rw [List.take_zero]; exact hM10, by rw [List.take_zero]; exact hD10, Lib.hid hdis0, Lib.hid (fun j h => .inl h), Lib.hid (fun j h => .inl h), Tn.refl _ _, hB10⟩
                clear hB10 hdis0
                case round =>
                  obtain ⟨k, gm, capm, Sm, svm, lvm, ge, cape, Se, sve, lve, hk3, rfl, hM, hD, hdis, hsm, hsd, T, hB⟩ := hrel
                  by_cases hlt3 : k < n3
                  · have hkl : k < l3.length := by rw [HN3.out]; exact hlt3
                    obtain ⟨a, ha⟩ : ∃ a, l3[k] = a := ⟨_, rfl⟩
                    obtain ⟨b0, o0, rfl, c0, c1, c2', c3', c4, c5, c6, c7⟩ := (F3.out.below hB).cells8 hkl ha
                    have hsa := HS3.out a (by rw [← ha]; exact List.getElem_mem hkl)
                    have hoa := F3.out.ok a (by rw [← ha]; exact List.getElem_mem hkl)
                    have HSA := Lib.hid hsa
                    have HOA := Lib.hid hoa
                    have HTK : Hid (actsP M1 (l3.take (k + 1)) = (actP (actsP M1 (l3.take k)) a).1) := Lib.hid (by rw [acts_take hkl, ha])
                    have HWK : Hid (WM (40 + 40) (actsP M1 (l3.take k))) := Lib.hid (takes_wm HWM1.out l3 k hl3'.out)
                    have hkn : (k : Int) < n3 := by omega
                    have hba : Below wr.heap.size wr (wr.alloc (.cells a.cells 46)).drew := below_drew1 (alloc_cells (w := wr) a)
                    have hM1 := hM.below hba
                    have hD1 := hD.below hba
                    have hB1 := below_step hB hba
                    have hSx : (wr.alloc (.cells a.cells 46)).drew.heap[wr.heap.size]? = some (.cells a.cells 46 (0, 0)) := heap_alloc_new wr _
                    have hbxm : ¬ Own t gm Sm lvm wr.heap.size := fun hj => by have := (hM.own_obj hj).1; omega
                    have hbxd : ¬ Own td ge Se lve wr.heap.size := fun hj => by have := (hD.own_obj hj).1; omega
                    have hwd : w.heap.size ≤ w5.heap.size := hw5
                    have hMl : Hid (∀ j, Own td ge Se lve j → j < wr.heap.size) := Lib.hid (fun j hj => (hD.own_obj hj).1)
                    obtain ⟨bx, hbx⟩ : ∃ bx, wr.heap.size = bx := ⟨_, rfl⟩
                    rw [hbx] at hSx hbxm hbxd
                    have HBX := Lib.hid hbx
                    clear hsa hoa ha hkl hM hD hB
                    go_wp2
                    clear hbx
                    refine start_ (n := 7) (S := fun w' => w'.heap[bx]? = some (.cells a.cells 46 (0, 0))) (ds := []) #[false, false, false, false, false, false, false] (by kernel_rfl) rfl rfl hSx (fun hHeld => ?_)
                    refine pure_ (i := 0) (N := (some 152)) (v := ?_) (a' := ?_) #[true, false, false, false, false, false, false] rfl rfl (by kernel_rfl) (fun _ _ _ h => h) (Or.inl ⟨by rfl, ?_⟩) ?_ ?_
                    rotate_left
                    · intro w'
                      go_simp
                      with_reducible rfl
                    rotate_left
                    · simp only [Act.put, List.setIfInBounds_toArray, List.set_cons_zero, List.set_cons_succ, i64_w, i32_w]
                      rfl
                    refine take_ (i := 1) (N := (some 153)) (v := ?_) (a' := ?_) #[true, true, false, false, false, false, false] rfl rfl (by kernel_rfl) (fun _ _ _ h => h) (Or.inl ⟨by rfl, ?_⟩) hHeld ?_ ?_
                    rotate_left
                    · rintro w' hw'
                      obtain ⟨k0, k1, k2, k3, k4, k5, k6, k7⟩ := act_box hw'
                      go_simp
                      with_reducible rfl
                    rotate_left
                    · simp only [Act.put, List.setIfInBounds_toArray, List.set_cons_zero, List.set_cons_succ, i64_w, i32_w]
                      rfl
                    refine pure_ (i := 3) (N := (some 155)) (v := ?_) (a' := ?_) #[true, true, false, true, false, false, false] rfl rfl (by kernel_rfl) (fun _ _ _ h => h) (Or.inl ⟨by rfl, ?_⟩) ?_ ?_
                    rotate_left
                    · intro w'
                      go_simp
                      with_reducible rfl
                    rotate_left
                    · simp only [Act.put, List.setIfInBounds_toArray, List.set_cons_zero, List.set_cons_succ, i64_w, i32_w]
                      rfl
                    refine take_ (i := 4) (N := (some 156)) (v := ?_) (a' := ?_) #[true, true, false, true, true, false, false] rfl rfl (by kernel_rfl) (fun _ _ _ h => h) (Or.inl ⟨by rfl, ?_⟩) hHeld ?_ ?_
                    rotate_left
                    · rintro w' hw'
                      obtain ⟨k0, k1, k2, k3, k4, k5, k6, k7⟩ := act_box hw'
                      go_simp
                      with_reducible rfl
                    rotate_left
                    · simp only [Act.put, List.setIfInBounds_toArray, List.set_cons_zero, List.set_cons_succ, i64_w, i32_w]
                      rfl
                    refine one_ (i := 2) (N := (some 154)) #[true, true, true, true, true, false, false] rfl rfl (by kernel_rfl) (by decide) (fun K hK => ?_)
                    refine goes_ Try.func23 (by kernel_rfl) rfl #[.pointer (some ⟨t, 0, none⟩), .agg a.cells] (by rfl) rfl rfl (by simp only [List.map_toArray, List.map_cons, List.map_nil]; rfl) ?_
                    refine (act_step w hw1 hM1 HWK.out (by decide) hB1 a HSA.out HOA.out).mono ?_
                    rintro e w20 ⟨rfl, hAm⟩
                    have hB20 := Tn.of_own hAm hB1 (fun j hj => Nat.le_trans hw1 (hM1.own_obj hj).2.1) hB1.size
                    have hSx20 := after_box hAm hSx hbxm
                    refine ⟨_, rfl, hK.out _ _ hSx20 (fun hHeld => ?_)⟩
                    clear hK K
                    refine norm_ (a' := ?_) ?_ ?_
                    rotate_left
                    · show Act.put _ (some 154) _ = _
                      simp only [Act.put, List.setIfInBounds_toArray, List.set_cons_zero, List.set_cons_succ, i64_w, i32_w]
                      rfl
                    obtain ⟨gm2, capm2, Sm2, svm2, lvm2, hM2, hsm2, Tm2⟩ := id hAm
                    have hD2 := hD1.other hM1 Tm2 (fun j hj hj2 => hdis j hj2 hj)
                    refine one_ (i := 5) (N := (some 157)) #[true, true, true, true, true, true, false] rfl rfl (by kernel_rfl) (by decide) (fun K hK => ?_)
                    refine goes_ Try.func23 (by kernel_rfl) rfl #[.pointer (some ⟨td, 0, none⟩), .agg a.cells] (by rfl) rfl rfl (by simp only [List.map_toArray, List.map_cons, List.map_nil]; rfl) ?_
                    refine (act_step w hwd hD2 HWK.out (by decide) hB20 a HSA.out HOA.out).mono ?_
                    rintro e w21 ⟨rfl, hAd⟩
                    have hB21 := Tn.of_own hAd hB20 (fun j hj => Nat.le_trans hwd (hD2.own_obj hj).2.1) hB20.size
                    have hSx21 := after_box hAd hSx20 hbxd
                    refine ⟨_, rfl, hK.out _ _ hSx21 (fun hHeld => ?_)⟩
                    clear hK K
                    refine norm_ (a' := ?_) ?_ ?_
                    rotate_left
                    · show Act.put _ (some 157) _ = _
                      simp only [Act.put, List.setIfInBounds_toArray, List.set_cons_zero, List.set_cons_succ, i64_w, i32_w]
                      rfl
                    refine pure_ (i := 6) (N := (some 158)) (v := ?_) (a' := ?_) #[true, true, true, true, true, true, true] rfl rfl (by kernel_rfl) (fun _ _ _ h => h) (Or.inl ⟨by rfl, ?_⟩) ?_ ?_
                    rotate_left
                    · intro w'
                      go_simp
                      with_reducible rfl
                    rotate_left
                    · simp only [Act.put, List.setIfInBounds_toArray, List.set_cons_zero, List.set_cons_succ, i64_w, i32_w]
                      rfl
                    refine done_ (by kernel_rfl) ?_
                    have hdj : ∀ j, Own t gm2 Sm2 lvm2 j → ¬ Own td ge Se lve j := fun j h1 h2 => by
                      rcases hsm2 j h1 with h3 | h3
                      · exact hdis.out j h3 h2
                      · have := hMl.out j h2
                        have := hba.size
                        omega
                    obtain ⟨gd2, capd2, Sd2, svd2, lvd2, hD3, hsd2, Td2⟩ := hAd
                    have hM3 := hM2.other hD2 Td2 hdj
                    have hM2l : ∀ j, Own t gm2 Sm2 lvm2 j → j < w20.heap.size := fun j hj => (hM2.own_obj hj).1
                    have hz1 : w10.heap.size ≤ wr.heap.size := T.size
                    have hz2 := hba.size
                    have hz3 := Tm2.size
                    have HDJ : Hid (∀ j, Own t gm2 Sm2 lvm2 j → ¬ Own td gd2 Sd2 lvd2 j) := Lib.hid (fun j h1 h2 => by
                      rcases hsd2 j h2 with h3 | h3
                      · exact hdj j h1 h3
                      · have := hM2l j h1; omega)
                    have HSM : Hid (∀ j, Own t gm2 Sm2 lvm2 j → Own t g S lv j ∨ w10.heap.size ≤ j) := Lib.hid (fun j h1 => by
                      rcases hsm2 j h1 with h3 | h3
                      · exact hsm.out j h3
                      · exact .inr (by omega))
                    have HSD : Hid (∀ j, Own td gd2 Sd2 lvd2 j → Own td gd Sd lvd j ∨ w10.heap.size ≤ j) := Lib.hid (fun j h1 => by
                      rcases hsd2 j h1 with h3 | h3
                      · exact hsd.out j h3
                      · exact .inr (by omega))
                    have HT : Tn (fun j => Own t g S lv j ∨ Own td gd Sd lvd j) w10 w21 := ((T.trans (Tn.of_below (X := fun _ => False) hba) (fun _ _ h => h.elim)).trans Tm2 (fun j hj h => by
                      rcases hsm.out j h with h3 | h3
                      · exact .inl h3
                      · omega)).trans Td2 (fun j hj h => by
                      rcases hsd.out j h with h3 | h3
                      · exact .inr h3
                      · omega)
                    rw [← HTK.out] at hM3 hD3
                    clear hAm hM1 hD1 hB1 hba c0 c1 c2' c3' c4 c5 c6 c7 hsm hsd hdis T hSx hSx20 hSx21 hB20 hM2 hD2 hdj hsm2 hsd2 Td2 Tm2 hM2l hHeld
                    go_wp2
                    go_roundw
                    case rel => exact ⟨k + 1, gm2, capm2, Sm2, svm2, lvm2, gd2, capd2, Sd2, svd2, lvd2, by omega, by go_num, hM3, hD3, HDJ, HSM, HSD, HT, hB21⟩
                    case measure => simp [Go.RowKit.intOf]; omega
                  · obtain rfl : n3 = k := by omega
                    have hl3n : l3.take n3 = l3 := List.take_of_length_le (by rw [HN3.out]; exact Nat.le_refl _)
                    rw [hl3n] at hM
                    have hC11 : MedAt wr w4.heap.size tc (actsP M1 l3) g7 cap7 S7 sv7 lv7 := hC10.keep T (fun j h1 h2 => by
                      have h3 := HOC7.out j h1
                      rcases h2 with h2 | h2
                      · have := HOM.out j h2; omega
                      · have := HOD.out j h2; omega) (fun j h2 _ => by
                      rcases h2 with h2 | h2
                      · exact (hM10.own_obj h2).2.2
                      · exact (hD10.own_obj h2).2.2)
                    have HWF : Hid (WM (40 + 40) (actsP M1 l3)) := Lib.hid (by have := takes_wm HWM1.out l3 n3 hl3'.out; rw [hl3n] at this; exact this)
                    clear hl3n hM10 hD10 hC10 hD hdis hsm hsd T
                    generalize wr = w11 at *
                    go_wp2
                    go_loopw [161] (fun i wr => ∃ k : Nat, k ≤ n ∧ i = .int .i64 k ∧ Below w11.heap.size w11 wr) (fun i _ => n - (Go.RowKit.intOf i).toNat)
                    case atStart => exact ⟨0, by omega, rfl, Below.refl _ _⟩
                    case round =>
                      obtain ⟨k, hk4, rfl, hb⟩ := hrel
                      by_cases hlt4 : k < n
                      · obtain ⟨R, hR⟩ : ∃ R, readM (actsP M1 l3) (k : Int) = R := ⟨_, rfl⟩
                        obtain ⟨X, G, er⟩ := R
                        have HR := Lib.hid hR
                        obtain ⟨ng, hng⟩ : ∃ ng, G.length = ng := ⟨_, rfl⟩
                        have HNG := Lib.hid hng
                        have hMr := hM.below hb
                        clear hR hng
                        go_wp2_with fail
                        refine (readM_any hMr HWF.out k _ HR.out).mono ?_
                        rintro e y1 ⟨v1, rfl, hR1, hb1⟩
                        obtain ⟨B1, d1, rfl, -⟩ := ir_slice hR1 HNG.out
                        have hbb1 := below_step hb hb1
                        have hDr := hC11.below hbb1
                        have hI1 : IC .i64 y1 B1 G := (ir_ic hR1).2.2
                        clear hMr hb hb1 hR1
                        go_wp2_with fail
                        refine (readM_any hDr HWF.out k _ HR.out).mono ?_
                        rintro e y2 ⟨v2, rfl, hR2, hb2⟩
                        obtain ⟨B2, d2, rfl, -⟩ := ir_slice hR2 HNG.out
                        have hbb2 := below_step hbb1 hb2
                        have hI1' := ic_below hI1 hb2
                        have hI2 : IC .i64 y2 B2 G := (ir_ic hR2).2.2
                        have e1 : (er != er) = false := by simp
                        clear hDr hbb1 hb2 hR2 hI1
                        go_wp2_with fail
                        refine (equal_any B1 B2 ng d1 ng d2 G G _ hI1' hI2 HNG.out HNG.out).mono ?_
                        rw [show (G == G) = true by simp]
                        rintro e y5 ⟨rfl, hq⟩
                        have hbb5 := below_step hbb2 (drawn_below hq)
                        clear hq hI1' hI2 hbb2
                        go_wp2
                        go_roundw
                        case rel => exact ⟨k + 1, by omega, by go_num, hbb5⟩
                        case measure => simp [Go.RowKit.intOf]; omega
                      · obtain rfl : n = k := by omega
                        have hfin := below_step hB hb
                        go_wp2
                        go_ret
                        exact ⟨rfl, hfin⟩
end Go.Proofs.Ytfkfdaammlffmaa
