import Derived.Test.YtfkfdaammlffmaaNK
/-! The law MediumHeals, walked. -/
namespace Go.Proofs.Ytfkfdaammlffmaa
set_option linter.unusedVariables false
set_option linter.unusedSimpArgs false
open Go.RowKit Go.Proofs
open Go.Proofs.YtfkfdaammlffmaaW.PrintWords

/-- what the row tells of an argument that is a damage -/
structure DamArg (w : World) (A : Option Addr) (c : Nat) (E : List Int) (A2 : Option Addr) (c2 : Nat) (C : PL) : Prop where
  e : IC .i64 w A E
  ec : E.length ≤ c
  c : PC w A2 C
  cc : C.length ≤ c2
  ew : ∀ x ∈ E, (Lit.int .i64 x).wf = true
  cw : ∀ x ∈ C, (Lit.int .i64 x.1).wf = true ∧ (Lit.int .i64 x.2).wf = true
theorem Tn.of_own {w w' : World} {base t : Nat} {M : Med} {O : Nat → Prop} {B : Nat} {a : World} (h : After w w' base t M O) (hb : Below B a w) (hO : ∀ k, O k → B ≤ k) (hB : B ≤ w.heap.size) : Below B a w' := by
  obtain ⟨g, cap, S, sv, lv, -, -, T⟩ := h
  exact T.below hb hB hO
theorem After.of_below {w w1 : World} {base t : Nat} {M : Med} {O : Nat → Prop} (h : After w w1 base t M O) : ∃ g cap S sv lv, MedAt w1 base t M g cap S sv lv := by
  obtain ⟨g, cap, S, sv, lv, h1, -, -⟩ := h
  exact ⟨g, cap, S, sv, lv, h1⟩

theorem first_below {a b : World} {P : Prop} (h : Below a.heap.size a b ∧ P) : Below a.heap.size a b := h.1
theorem below_step' {B : Nat} {a b c : World} (h : Below B a b) (k : Below b.heap.size b c) (hB : B ≤ a.heap.size) : Below B a c := h.trans (k.mono (Nat.le_trans hB h.size))
set_option maxRecDepth 100000 in
set_option maxHeartbeats 8000000 in
theorem law_MediumHeals (b0 : Int) (A : Option Addr) (cE : Nat) (E : List Int) (A2 : Option Addr) (cC : Nat) (C : PL) (a1 a2 : Int) (w : World) (hd : DamArg w A cE E A2 cC C) (w1f : (Lit.int .u8 a1).wf = true) (w2f : (Lit.int .u8 a2).wf = true) :
    Calls Try.prog 5 #[.agg #[.int .i64 b0, .slice A E.length cE, .slice A2 C.length cC], .int .u8 a1, .int .u8 a2] w fun e w' => e = .returned (.bool true) ∧ Below w.heap.size w w' := by
  obtain ⟨p1, p2⟩ := byte_wf w1f
  obtain ⟨q1, q2⟩ := byte_wf w2f
  obtain ⟨nE, hnE⟩ : ∃ nE, E.length = nE := ⟨_, rfl⟩
  obtain ⟨nC, hnC⟩ : ∃ nC, C.length = nC := ⟨_, rfl⟩
  rw [hnE, hnC]
  have HNE := Lib.hid hnE
  have HNC := Lib.hid hnC
  have hmE : nE ≤ 9223372036854775807 := by rw [← hnE]; exact ic_max hd.e
  have hmC : nC ≤ 9223372036854775807 := by rw [← hnC]; exact Kd.C_max hd.c
  have HD := Lib.hid hd
  have hbx := heap_alloc_new w (.cells #[.int .i64 b0, .slice A nE cE, .slice A2 nC cC] 44)
  have hb1 : Below w.heap.size w (w.alloc (.cells #[.int .i64 b0, .slice A nE cE, .slice A2 nC cC] 44)) := (Below.refl _ _).alloc (Nat.le_refl _) _
  have hs1 : (w.alloc (.cells #[.int .i64 b0, .slice A nE cE, .slice A2 nC cC] 44)).heap.size = w.heap.size + 1 := by simp
  clear hnE hnC hd w1f w2f
  go_enter Try.func5, Try.ntmps5
  go_wp2_with fail
  obtain ⟨w1, hw1⟩ : ∃ w1, w.alloc (.cells #[.int .i64 b0, .slice A nE cE, .slice A2 nC cC] 44) = w1 := ⟨_, rfl⟩
  rw [hw1] at hbx hb1 hs1 ⊢
  clear hw1
  refine (awake_any _).mono ?_
  rintro e w2 ⟨rfl, hB2⟩
  go_wp2_with fail
  refine (newMed_any 2 1 9 _ ⟨by decide, by decide, by decide, by decide, by decide⟩).mono ?_
  rintro e w3 ⟨t, g, cap, S, sv, lv, rfl, hM, hB3⟩
  have hbas : w1.heap.size ≤ w2.heap.size := hB2.size
  have hB := below_step hB2 hB3
  clear hB2 hB3
  go_wp2_with fail
  refine (raw_any 0 0 a1 0 false _ _ _ _ 2352 rfl).mono ?_
  rintro e w4 ⟨rfl, hb⟩
  replace hM := hM.below hb
  replace hB := below_step hB hb
  obtain ⟨za, hza⟩ : ∃ z, strOfNums (rawL a1 2352) = z := ⟨_, rfl⟩
  have hzal : Hid (za.size = 2352) := Lib.hid (by rw [← hza]; exact rawS_size _)
  rw [hza]
  clear hza hb
  go_wp2_with fail
  refine (raw_any 0 0 a2 0 false _ _ _ _ 2352 rfl).mono ?_
  rintro e w5 ⟨rfl, hb⟩
  replace hM := hM.below hb
  replace hB := below_step hB hb
  obtain ⟨zb, hzb⟩ : ∃ z, strOfNums (rawL a2 2352) = z := ⟨_, rfl⟩
  have hzbl : Hid (zb.size = 2352) := Lib.hid (by rw [← hzb]; exact rawS_size _)
  rw [hzb]
  clear hzb hb
  go_wp2_with fail
  have hown : ∀ k, Own t g S lv k → w2.heap.size ≤ k := fun k hk => (hM.own_obj hk).2.1
  have hR := recordM_any hM (newM_wm ⟨by decide, by decide, by decide, by decide, by decide⟩) (by decide) 0 za (by rw [hzal.out]; decide)
  rw [hM_new za hzal.out] at hR
  refine hR.mono ?_
  rintro e w6 ⟨rfl, hAf⟩
  replace hB := Tn.of_own hAf hB (fun k hk => by have := hown k hk; omega) (by have := hB.size; omega)
  obtain ⟨g1, cap1, S1, sv1, lv1, hM6⟩ := hAf.of_below
  clear hM hR hown hAf
  have hbx6 : w6.heap[w.heap.size]? = some (.cells #[.int .i64 b0, .slice A nE cE, .slice A2 nC cC] 44 (0, 0)) := (hB.block _ (by omega)).trans hbx
  have c0 : w6.cell? ⟨w.heap.size, 0, none⟩ = some (.int .i64 b0) := by simp [World.cell?, hbx6]
  have c1 : w6.cell? ⟨w.heap.size, 1, none⟩ = some (.slice A nE cE) := by simp [World.cell?, hbx6]
  have c2 : w6.cell? ⟨w.heap.size, 2, none⟩ = some (.slice A2 nC cC) := by simp [World.cell?, hbx6]
  have f0 : w6.frozen? ⟨w.heap.size, 0, none⟩ = false := by simp [World.frozen?, hbx6]
  have hbx7 : (w6.setCell ⟨w.heap.size, 0, none⟩ (.int .i64 0)).heap[w.heap.size]? = some (.cells #[.int .i64 0, .slice A nE cE, .slice A2 nC cC] 44 (0, 0)) := by simp [World.setCell, Array.getElem?_modify, hbx6]
  have hbt7 : But w.heap.size w.heap.size w6 (w6.setCell ⟨w.heap.size, 0, none⟩ (.int .i64 0)) := (But.refl w.heap.size w.heap.size w6).set (p := ⟨w.heap.size, 0, none⟩) rfl _
  have hM7 : MedAt (w6.setCell ⟨w.heap.size, 0, none⟩ (.int .i64 0)) w2.heap.size t (hM 1 za [] []) g1 cap1 S1 sv1 lv1 :=
    hM6.keep (Y := fun j => j = w.heap.size) (Tn.of_but hbt7 rfl rfl) (fun k hk e => by have := (hM6.own_obj hk).2.1; omega) (fun k e _ cur => by
      subst e
      exact ⟨fun h => (by rw [hbx6] at h; injection h with h; injection h with _ h; cases h), fun h => (by rw [hbx6] at h; injection h with h; injection h with _ h; cases h)⟩)
  have hBw : Below w.heap.size w (w6.setCell ⟨w.heap.size, 0, none⟩ (.int .i64 0)) := ((hb1.trans (hB.mono (by omega))).setCell (Nat.le_refl _) _)
  have hsz7 : w1.heap.size ≤ (w6.setCell ⟨w.heap.size, 0, none⟩ (.int .i64 0)).heap.size := by simp [World.setCell]; exact hB.size
  clear hM6 hB hbx6 hbt7
  have HF : ∀ (W : World), Below w1.heap.size (w6.setCell ⟨w.heap.size, 0, none⟩ (.int .i64 0)) W → Below w.heap.size w W := fun W hW => hBw.trans (hW.mono (by omega))
  have HFF := Lib.hid HF
  have hbxW : ∀ (W : World), Below w1.heap.size (w6.setCell ⟨w.heap.size, 0, none⟩ (.int .i64 0)) W → W.heap[w.heap.size]? = some (.cells #[.int .i64 0, .slice A nE cE, .slice A2 nC cC] 44 (0, 0)) := fun W hW => (hW.block _ (by omega)).trans hbx7
  have HBX := Lib.hid hbxW
  clear HF hbxW hbx7
  by_cases hl1 : 200 < nE
  · have hl1' : (200 : Int) < nE := by omega
    clear c2
    go_wp2
    go_ret
    exact ⟨rfl, hBw⟩
  have hl1' : (nE : Int) ≤ 200 := by omega
  by_cases hl2 : 200 < nC
  · have hl2' : (200 : Int) < nC := by omega
    go_wp2
    go_ret
    exact ⟨rfl, hBw⟩
  have hl2' : (nC : Int) ≤ 200 := by omega
  clear hl1 hl2
  go_wp2_with fail
  generalize w6.setCell ⟨w.heap.size, 0, none⟩ (.int .i64 0) = w7 at *
  clear c0 c1 c2 f0
  have hWM : WM 2 (hM 1 za [] []) := hM_wm hzal.out (by decide) (by decide) [] [] (fun x h => by cases h) (fun x h => by cases h) List.Pairwise.nil
  have hown : ∀ k, Own t g1 S1 lv1 k → w1.heap.size ≤ k := fun k hk => by have := (hM7.own_obj hk).2.1; omega
  have hDa := damageM_any hM7 hWM 0 A nE cE E A2 nC cC C HNE.out HNC.out (by omega) (by omega) (fun W hW => ic_below HD.out.e (hBw.trans (hW.mono (by omega)))) (fun W hW => Kd.C_below HD.out.c (hBw.trans (hW.mono (by omega))))
  obtain ⟨D, hD⟩ : ∃ D, damM (hM 1 za [] []) 0 E C = D := ⟨_, rfl⟩
  rw [hD] at hDa
  have HDD := Lib.hid hD
  have HDA := Lib.hid hDa
  clear hD hDa
  refine HDA.out.mono ?_
  rintro e w8 ⟨rfl, hAf⟩
  have hB8 := Tn.of_own hAf (Below.refl _ _) hown hsz7
  obtain ⟨g2, cap2, S2, sv2, lv2, hM8⟩ := hAf.of_below
  clear hAf hown hM7 hWM HDA
  by_cases hv : validE E = true ∧ validC C = true
  case neg =>
    have hD2 : D = (hM 1 za [] [], 1) := by
      rw [← HDD.out]
      by_cases hvE : validE E = true
      · have : validC C = false := by
          cases h : validC C with
          | false => rfl
          | true => exact absurd ⟨hvE, h⟩ hv
        exact damM_bad3 this
      · exact damM_bad2 (by simpa using hvE)
    subst hD2
    clear hv
    go_wp2_with fail
    refine (cleanM_any hM8 (hM_wm hzal.out (by decide) (by decide) [] [] (fun x h => by cases h) (fun x h => by cases h) List.Pairwise.nil) 0 true (hM_clean za)).mono ?_
    rintro e w9 ⟨rfl, hb9⟩
    have hfin := HFF.out _ (below_step' hB8 hb9 hsz7)
    go_wp2
    go_ret
    exact ⟨rfl, hfin⟩
  have HVE := Lib.hid hv.1
  have HVC := Lib.hid hv.2
  have hD2 : D = (hM 1 za (damE [] E) (damC [] C), 0) := by rw [← HDD.out]; exact hM_dam hv.1 hv.2
  subst hD2
  have hoE : OffOk (damE [] E) := damE_off (fun x h => by cases h) E (validE_range hv.1)
  have hoC : OffOk (damC [] C) := damC_off (fun x h => by cases h) C (fun x hx => by have := okC_spec (List.all_eq_true.1 hv.2 x hx); exact ⟨this.1, this.2.1⟩)
  have hsE : Srt (damE [] E) := damE_srt List.Pairwise.nil E
  have HOE := Lib.hid hoE
  have HOC := Lib.hid hoC
  have HSE := Lib.hid hsE
  clear hv hoE hoC hsE HDD
  go_wp2_with fail
  have hown : ∀ k, Own t g2 S2 lv2 k → w1.heap.size ≤ k := fun k hk => by have := (hM8.own_obj hk).2.1; omega
  have hR := recordM_any hM8 (hM_wm hzal.out (by decide) (by decide) _ _ HOE.out HOC.out HSE.out) (by decide) 0 zb (by rw [hzbl.out]; decide)
  rw [hM_rec za zb _ _ hzbl.out] at hR
  refine hR.mono ?_
  rintro e w9 ⟨rfl, hAf⟩
  have hB9 := Tn.of_own hAf hB8 hown (Nat.le_trans hsz7 hB8.size)
  obtain ⟨g3, cap3, S3, sv3, lv3, hM9⟩ := hAf.of_below
  clear hAf hown hM8 hR hB8
  have hWM : WM 2 (hM 2 zb (damE [] E) []) := hM_wm hzbl.out (by decide) (by decide) _ _ HOE.out (fun x h => by cases h) HSE.out
  have HWM := Lib.hid hWM
  clear hWM
  go_wp2_with fail
  refine (readM_any hM9 HWM.out 0 _ (hM_read HVE.out zb)).mono ?_
  rintro e w10 ⟨v10, rfl, hR10, hb10⟩
  obtain ⟨X, hX⟩ : ∃ X, strOfNums (readL (bytesOf zb) [] E) = X := ⟨_, rfl⟩
  rw [hX]
  have HX := Lib.hid hX
  obtain ⟨A10, c10, rfl, -⟩ := ir_slice hR10 HNE.out
  have hM10 := hM9.below hb10
  have hB10 := below_step' hB9 hb10 hsz7
  have hI10 : IC .i64 w10 A10 E := (ir_ic hR10).2.2
  clear hX hM9 hB9 hR10 hb10
  have hbx10 := HBX.out _ hB10
  have q1 : w10.cell? ⟨w.heap.size, 1, none⟩ = some (.slice A nE cE) := by simp [World.cell?, hbx10]
  go_wp2
  have hSw : ∀ a b : World, Below w10.heap.size w10 a → Below a.heap.size a b → Below w10.heap.size w10 b := fun a b h k => below_step h k
  have hJ1 : ∀ W, Below w10.heap.size w10 W → IC .i64 W A10 E := fun W h => ic_below hI10 h
  have hJ2 : ∀ W, Below w10.heap.size w10 W → IC .i64 W A E := fun W h => ic_below HD.out.e (HFF.out _ (below_step' hB10 h hsz7))
  have hJ3 : ∀ W, Below w10.heap.size w10 W → MedAt W w2.heap.size t (hM 2 zb (damE [] E) []) g3 cap3 S3 sv3 lv3 := fun W h => hM10.below h
  have hJ4 : ∀ W, Below w10.heap.size w10 W → W.cell? ⟨w.heap.size, 1, none⟩ = some (.slice A nE cE) := fun W h => (h.cell (show w.heap.size < w10.heap.size from (Array.getElem?_eq_some_iff.1 hbx10).1)).trans q1
  have hlen : (((X.size : Int)) != zb.size) = false := by
    rw [← HX.out, strOfNums_size]
    unfold readL
    rw [mkL_length, bytesOf_length]; simp
  have hxs : X.size = zb.size := by
    rw [← HX.out, strOfNums_size]
    unfold readL
    rw [mkL_length, bytesOf_length]
  have HXS := Lib.hid hxs
  obtain ⟨bq, hbq⟩ : ∃ bq, decide (E.length = 0) = bq := ⟨_, rfl⟩
  have hCl := hM_clean2 HVE.out zb
  rw [hbq] at hCl
  have HCL := Lib.hid hCl
  have hbq2 : ((nE : Int) == 0) = bq := by rw [← hbq, HNE.out, Bool.eq_iff_iff, beq_iff_eq, decide_eq_true_iff]; omega
  have hbq3 : (bq != bq) = false := by simp
  have HJ1 := Lib.hid hJ1
  have HJ2 := Lib.hid hJ2
  have HJ3 := Lib.hid hJ3
  have HJ4 := Lib.hid hJ4
  have HSW := Lib.hid hSw
  clear hJ1 hJ2 hJ3 hJ4 hSw hxs hCl hbq
  go_region_held3 (fun w' => Below w10.heap.size w10 w' ∧ w'.cell? ⟨w.heap.size, 1, none⟩ = some (.slice A nE cE))
    (first | assumption | exact ⟨below_drew (Below.refl _ _), q1⟩ | (refine (fun h => ⟨h, HJ4.out _ h⟩) ?_; first | assumption | exact below_drew (Below.refl _ _) | exact HSW.out _ _ (HSW.out _ _ (below_drew (Below.refl _ _)) hb20) hb21 | exact HSW.out _ _ (below_drew (Below.refl _ _)) hb20))
    (first | (go_at_call 16; refine (equal_any A10 A nE c10 nE cE E E _ (HJ1.out _ (first_below (by assumption))) (HJ2.out _ (first_below (by assumption))) HNE.out HNE.out).mono ?_; rw [show (E == E) = true by simp]; rintro e w20 ⟨rfl, hq⟩; have hb20 := drawn_below hq; clear hq) | (go_at_call 14; refine (cleanM_any (HJ3.out _ (first_below (by assumption))) HWM.out 0 bq HCL.out).mono ?_; rintro e w21 ⟨rfl, hb21⟩))
  rename_i hHeld
  have hb11 := hHeld.1
  have q3 := hHeld.2
  clear hHeld hb20 hb21 hbq2 hbq3 hlen
  have hJE := HJ2.out _ hb11
  have HE21 := Lib.hid hJE
  have hB21 := HFF.out _ (below_step' hB10 hb11 hsz7)
  clear hJE q1 hbx10 hI10 hM10
  have hzn : Hid (zb.size = 2352) := hzbl
  have kb := fun W => print_bytes (P := Try.prog) 9 52 5 Try.underlying9 Try.underlying52 Try.underlying5 zb W
  have hbW : Below w21.heap.size w21 (Lib.bytesWorld w21 5 zb) := bytes_below (Below.refl _ _) (Nat.le_refl _) _ _
  have hby := by_new w21 5 zb
  have q4 : (Lib.bytesWorld w21 5 zb).cell? ⟨w.heap.size, 1, none⟩ = some (.slice A nE cE) := (hbW.cell (World.block_lt_of_cell? w21 ⟨w.heap.size, 1, none⟩ q3)).trans q3
  have hby2 : By (Lib.bytesWorld w21 5 zb) w21.heap.size (zeroL (bytesOf zb) E 0) := by rw [zeroL_start]; exact hby
  have hlB : w21.heap.size < (Lib.bytesWorld w21 5 zb).heap.size := hby.1
  clear hby
  go_wp2
  obtain ⟨c8, hc8⟩ : ∃ c8, grownCap w21 zb.size 0 5 = c8 := ⟨_, rfl⟩
  rw [hc8]
  clear hc8 q4 q3 kb
  generalize Lib.bytesWorld w21 5 zb = w22 at hbW hby2 hlB ⊢
  go_loopw [103] (fun i wr => ∃ m : Nat, m ≤ nE ∧ i = .int .i64 m ∧ By wr w21.heap.size (zeroL (bytesOf zb) E m) ∧ But w21.heap.size w21.heap.size w22 wr) (fun i _ => nE - (Go.RowKit.intOf i).toNat)
  case atStart => exact ⟨0, by omega, rfl, hby2, But.refl _ _ _⟩
  clear hby2
  case round =>
    obtain ⟨m, hm, rfl, hby, hbt⟩ := hrel
    have hBr : Below w21.heap.size w21 wr := But.below hbW hbt hbW.size (Nat.le_refl _) (Nat.le_refl _)
    by_cases hlt : m < nE
    · have hml : m < E.length := by rw [HNE.out]; exact hlt
      obtain ⟨ad, rfl, hcell⟩ := ic_cell (ic_below HE21.out hBr) m hml
      obtain ⟨x, hx⟩ : ∃ x, rd E (m : Int) = x := ⟨_, rfl⟩
      have hgm : E[m]? = some x := by rw [← hx]; simp [rd, List.getD_eq_getElem?_getD, List.getElem?_eq_getElem hml]
      obtain ⟨hx0, hx1⟩ := validE_range HVE.out x (List.mem_of_getElem? hgm)
      rw [hx] at hcell
      have hst0 := zeroL_step (L := bytesOf zb) hgm hx0
      obtain ⟨kx, rfl⟩ : ∃ kx : Nat, x = kx := ⟨x.toNat, by omega⟩
      rw [Int.toNat_natCast] at hst0
      have hkr : kx < zb.size := by have := hzn.out; omega
      have hkl : kx < (zeroL (bytesOf zb) E m).length := by rw [zeroL_length, bytesOf_length]; exact hkr
      have hkr2 : (kx : Int) < zb.size := by omega
      obtain ⟨hcx, hfx⟩ := hby.2 kx hkl
      have hput := hby.put kx 0 hkl
      rw [hst0] at hput
      have hbt2 : But w21.heap.size w21.heap.size w22 (wr.setCell ⟨w21.heap.size, kx, none⟩ (.int .u8 0)) := hbt.set rfl _
      have hml2 : (m : Int) < nE := by omega
      clear hst0 hkl hgm hx hml
      go_wp2
      go_roundw
      case rel => exact ⟨m + 1, by omega, by go_num, hput, hbt2⟩
      case measure => simp [Go.RowKit.intOf]; omega
    · obtain rfl : nE = m := by omega
      have hfin : zeroL (bytesOf zb) E nE = readL (bytesOf zb) [] E := by rw [← HNE.out]; exact zero_read _ _
      rw [hfin] at hby
      have hrdl : (readL (bytesOf zb) [] E).length = zb.size := by unfold readL; rw [mkL_length, bytesOf_length]
      have hx := ic_string (P := Try.prog) 52 9 5 Try.underlying52 Try.underlying5 Try.underlying9 (hby.ic (by rw [hrdl]; have := hzn.out; omega)) zb.size c8 hrdl
      rw [HX.out] at hx
      have hbz := hB21.trans (hBr.mono hB21.size)
      clear hfin hrdl hby
      go_wp2
      go_ret
      exact ⟨rfl, hbz⟩
end Go.Proofs.Ytfkfdaammlffmaa
