import Derived.Test.YtlifinlideiloaaFI
/-! The comparison of the two tables. -/
namespace Go.Proofs.Ytlifinlideiloaa
set_option linter.unusedVariables false
set_option linter.unusedSimpArgs false
open Go.RowKit Go.Proofs
open Go.Proofs.YtlifinlideiloaaW.PrintWords

set_option maxRecDepth 100000 in
theorem rsame_any (A B : Option Addr) (n c d b1 : Nat) (l : PL) (w : World) (h : RR w b1 (.slice A n c) l) (h' : MRow w B l) (hl : l.length = n) (hn : n ≤ 1000) :
    Calls Try.prog 38 #[.slice A n c, .slice B n d] w fun e w' => e = .returned (.bool true) ∧ Below w.heap.size w w' := by
  have hnn : ((n : Int) != n) = false := by simp
  have HL := Lib.hid hl
  clear hl
  go_enter Try.func38, Try.ntmps38
  go_wp2
  go_loopw [5] (fun i wr => ∃ (k : Nat), k ≤ n ∧ i = .int .i64 k ∧ Below w.heap.size w wr) (fun i _ => n - (intOf i).toNat)
  case atStart => exact ⟨0, by omega, rfl, Below.refl _ _⟩
  case round =>
    obtain ⟨k, hk, rfl, hb⟩ := hrel
    by_cases hlt : k < n
    · obtain ⟨g, rfl, hg⟩ := rr_form h (by omega)
      obtain ⟨x, hx, hl⟩ := hg k hlt
      obtain ⟨g', rfl, hlt', m0, m1⟩ := h' k (by rw [HL.out]; exact hlt)
      have hxe : l.getD k (0, 0) = l[k]'(by rw [HL.out]; exact hlt) := by simp [List.getD_eq_getElem?_getD, HL.out, hlt]
      rw [← hxe, hx] at m0 m1
      clear hx hg hxe
      obtain ⟨xa, xb⟩ := x
      have l0 := fun w' hb => (hl w' hb).1
      have l1 := fun w' hb => (hl w' hb).2
      have l2 := fun w' (hb : Below w.heap.size w w') => (hb.cell hlt').trans m0
      have l3 := fun w' (hb : Below w.heap.size w w') => (hb.cell hlt').trans m1
      simp only at l0 l1 l2 l3
      clear hl m0 m1
      go_wp2
      go_region_held3 (fun w' => Below w.heap.size w w') (first | assumption | exact below_drew hb) (fail)
      go_wp2
      go_roundw
      case rel => exact ⟨k + 1, by omega, by go_num, by assumption⟩
      case measure => simp [intOf]; omega
    · obtain rfl : k = n := by omega
      go_wp2
      go_ret
      exact ⟨rfl, hb⟩

theorem rr_slice2 {base : Nat} {w : World} {v : Value} {l : PL} (h : RR w base v l) : ∃ A c, v = .slice A l.length c ∧ l.length ≤ c := by
  obtain ⟨A, c, rfl, hc, _⟩ := Kd.R_reads h
  exact ⟨A, c, rfl, hc⟩
theorem drawn_below {w w' : World} (h : ∃ q, w' = w.drewN q) : Below w.heap.size w w' := by
  obtain ⟨q, rfl⟩ := h
  exact below_drewN (Below.refl _ _) q

set_option maxRecDepth 100000 in
set_option maxHeartbeats 4000000 in
theorem same_any (t m : Nat) (A : Option Addr) (c : Nat) (T : Tab) (Ap : Option Addr) (cp : Nat) (Am : Option Addr) (cm : Nat) (w : World) (h : TB w t m A c T) (hw : WT T) (hp : IC .i64 w Ap T.P) (hcp : T.P.length ≤ cp) (hm : MRow w Am T.M) :
    Calls Try.prog 21 #[.pointer (some ⟨t, 0, none⟩), .agg #[.int .i64 T.B, .int .i64 T.S, .int .i64 T.u, .slice Ap T.P.length cp, .slice Am T.M.length cm]] w fun e w' => e = .returned (.bool true) ∧ Below w.heap.size w w' := by
  have q1 := hw.B
  have q2 := hw.P
  have q3 := hw.S
  have q4 := hw.u
  have q5 := hw.len
  have HW := Lib.hid hw
  clear hw
  have hb := (Below.refl w.heap.size w).alloc (Nat.le_refl _) (.cells #[.int .i64 T.B, .int .i64 T.S, .int .i64 T.u, .slice Ap T.P.length cp, .slice Am T.M.length cm] 42)
  have hbx := RB.boxed w T Ap cp Am cm
  have hT := h.below hb
  have hp1 := ic_below hp hb
  have hm1 := hm.below hb
  clear h hp hm
  go_enter Try.func21, Try.ntmps21
  go_wp2
  generalize w.alloc (.cells #[.int .i64 T.B, .int .i64 T.S, .int .i64 T.u, .slice Ap T.P.length cp, .slice Am T.M.length cm] 42) = w1 at hb hbx hT hp1 hm1 ⊢
  have l0 := fun w' (h : Below w1.heap.size w1 w') => (hbx.below h).cells.1
  have l1 := fun w' (h : Below w1.heap.size w1 w') => (hbx.below h).cells.2.1
  have l2 := fun w' (h : Below w1.heap.size w1 w') => (hbx.below h).cells.2.2.1
  have l3 := fun w' (h : Below w1.heap.size w1 w') => (hbx.below h).cells.2.2.2.1
  have l4 := fun w' (h : Below w1.heap.size w1 w') => (hbx.below h).cells.2.2.2.2
  obtain ⟨E, hE⟩ : ∃ E, strOfNums (encL T) = E := ⟨_, rfl⟩
  have KE : Hid (∀ W, TB W t m A c T → Calls Try.prog 23 #[.pointer (some ⟨t, 0, none⟩)] W fun e w' => e = .returned (.string E) ∧ Below W.heap.size W w') := Lib.hid (fun W hTW => by rw [← hE]; exact encode_any t m A c T W hTW HW.out)
  have KR : Hid (∀ W, IC .i64 W Ap T.P → MRow W Am T.M → Calls Try.prog 40 #[.agg #[.int .i64 T.B, .int .i64 T.S, .int .i64 T.u, .slice Ap T.P.length cp, .slice Am T.M.length cm]] W fun e w' => e = .returned (.string E) ∧ Below W.heap.size W w') := Lib.hid (fun W h1 h2 => by rw [← hE]; exact rencode_any T Ap cp Am cm W HW.out h1 hcp h2)
  clear hE
  obtain ⟨bl, hbl⟩ : ∃ bl, (badS T).length = bl := ⟨_, rfl⟩
  have HBL := Lib.hid hbl
  obtain ⟨ml, hml⟩ : ∃ ml, T.M.length = ml := ⟨_, rfl⟩
  have s1 : IntKind.i64.wrap ((T.S : Int) - T.u) = (T.S : Int) - T.u := IntWalk.i64_in _ (by omega)
  have e1 : ((T.B : Int) != T.B) = false := by simp
  have e2 : (((T.B : Int) + T.P.length + T.S) != ((T.B : Int) + T.P.length + T.S)) = false := by simp
  have e3 : (((T.S : Int) - T.u) != ((T.S : Int) - T.u)) = false := by simp
  clear hbl hml
  go_region_held3 (fun w' => Below w1.heap.size w1 w')
    (first | assumption | exact below_drew (Below.refl _ _) | exact below_step (by assumption) hb8)
    (first | (go_at_call 24; refine (blocks_any t m A c T _ (hT.below (by assumption))).mono ?_; rintro e w8 ⟨rfl, rfl⟩) | (go_at_call 12; refine (sectors_any t m A c T _ (hT.below (by assumption)) q1 q2 q3).mono ?_; rintro e w8 ⟨rfl, hq⟩; have hb8 := drawn_below hq; clear hq) | (go_at_call 37; refine (rsectors_any T Ap cp Am cm _ q1 q2 q3).mono ?_; rintro e w8 ⟨rfl, hb8⟩) | (go_at_call 16; refine (free_any t m A c T _ (hT.below (by assumption)) q3 q4).mono ?_; rintro e w8 ⟨rfl, hq⟩; have hb8 := drawn_below hq; clear hq) | (go_at_call 27; refine (primary_any t m A c T _ (hT.below (by assumption)) q2).mono ?_; rintro e w8 ⟨v8, rfl, hR8, hb8⟩; obtain ⟨A8, c8, rfl, hc8⟩ := ir_slice hR8 rfl; have hC8 := (ir_ic hR8).2.2; clear hR8 hc8) | (go_at_call 25; refine (equal_any A10 A11 bl c10 bl c11 (badS T) (badS T) _ hC12 hC11 HBL.out HBL.out).mono ?_; rw [show (badS T == badS T) = true by simp]; rintro e w8 ⟨rfl, hq⟩; have hb8 := drawn_below hq; clear hq) | (go_at_call 25; refine (equal_any A8 Ap T.P.length c8 T.P.length cp T.P T.P _ hC8 (ic_below hp1 (by assumption)) rfl rfl).mono ?_; rw [show (T.P == T.P) = true by simp]; rintro e w8 ⟨rfl, hq⟩; have hb8 := drawn_below hq; clear hq) | (go_at_call 18; refine (replaced_any t m A c T _ (hT.below (by assumption)) HW.out).mono ?_; rintro e w8 ⟨v9, rfl, hR9, hb8⟩; obtain ⟨A9, c9, rfl, hc9⟩ := rr_slice2 hR9; clear hc9) | (go_at_call 38; refine (rsame_any A9 Am T.M.length c9 cm _ T.M _ hR9 (hm1.below (by assumption)) rfl (by omega)).mono ?_; rintro e w8 ⟨rfl, hb8⟩; clear hR9) | (go_at_call 15; refine (bad_any t m A c T _ (hT.below (by assumption)) HW.out).mono ?_; rintro e w8 ⟨v10, rfl, hR10, hb8⟩; obtain ⟨A10, c10, rfl, hc10⟩ := ir_slice hR10 HBL.out; have hC10 := (ir_ic hR10).2.2; clear hR10 hc10) | (go_at_call 39; refine (rbad_any T Ap cp Am cm _ HW.out (ic_below hp1 (by assumption)) hcp (hm1.below (by assumption))).mono ?_; rintro e w8 ⟨v11, rfl, hR11, hb8⟩; obtain ⟨A11, c11, rfl, hc11⟩ := ir_slice hR11 HBL.out; have hC11 := (ir_ic hR11).2.2; have hC12 := ic_below hC10 hb8; clear hR11 hc11 hC10) | (go_at_call 23; refine (KE.out _ (hT.below (by assumption))).mono ?_; rintro e w8 ⟨rfl, hb8⟩) | (go_at_call 40; refine (KR.out _ (ic_below hp1 (by assumption)) (hm1.below (by assumption))).mono ?_; rintro e w8 ⟨rfl, hb8⟩))
  rename_i hHeld
  have hb2 := hHeld
  clear hHeld
  generalize w8 = w9 at hb2 ⊢
  go_wp2
  go_loopw [5] (fun v wr => ∃ i : Int, -1 ≤ i ∧ i ≤ (T.B : Int) + T.P.length + T.S + 1 ∧ v = .int .i64 i ∧ Below w1.heap.size w1 wr) (fun v _ => ((T.B : Int) + T.P.length + T.S + 1 - intOf v).toNat)
  case atStart => exact ⟨-1, by omega, by omega, rfl, hb2⟩
  clear hb2
  case round =>
    obtain ⟨i, hi0, hi1, rfl, hb2⟩ := hrel
    have c0 := l0 _ hb2
    have c1 := l1 _ hb2
    have c2 := l2 _ hb2
    have c3 := l3 _ hb2
    have c4 := l4 _ hb2
    have HT := Lib.hid (hT.below hb2)
    have HP := Lib.hid (ic_below hp1 hb2)
    have HM := Lib.hid (hm1.below hb2)
    by_cases hlt : i ≤ (T.B : Int) + T.P.length + T.S
    · go_wp2_with fail
      refine (rsectors_any T Ap cp Am cm _ q1 q2 q3).mono ?_
      rintro e y1 ⟨rfl, hb3⟩
      have hb4 := below_step hb2 hb3
      clear c0 c1 c2 c3 c4 HT HP HM hb2 hb3
      have HT := Lib.hid (hT.below hb4)
      obtain ⟨X, hX⟩ : ∃ X, physS T i = X := ⟨_, rfl⟩
      obtain ⟨xs, xe⟩ := X
      have HX := Lib.hid hX
      obtain ⟨Y, hY⟩ : ∃ Y, blockS T i = Y := ⟨_, rfl⟩
      obtain ⟨ys, ye⟩ := Y
      have HY := Lib.hid hY
      have n1 : (xs != xs) = false := by simp
      have n2 : (xe != xe) = false := by simp
      have n3 : (ys != ys) = false := by simp
      have n4 : (ye != ye) = false := by simp
      clear hX hY
      go_wp2_with fail
      refine (phys_any t m A c T _ HT.out q1 q2 HW.out.val64 i).mono ?_
      rw [HX.out]
      rintro e y2 ⟨rfl, hq⟩
      have hb5 := below_step hb4 (drawn_below hq)
      clear hq HT hb4
      have c0 := l0 _ hb5
      have c1 := l1 _ hb5
      have c2 := l2 _ hb5
      have c3 := l3 _ hb5
      have c4 := l4 _ hb5
      go_wp2_with fail
      refine (rphys_any T Ap cp Am cm _ HW.out (ic_below hp1 hb5) hcp (hm1.below hb5) i).mono ?_
      rw [HX.out]
      rintro e y3 ⟨rfl, hb6⟩
      replace hb6 := below_step hb5 hb6
      clear hb5 c0 c1 c2 c3 c4
      go_wp2_with fail
      refine (block_any t m A c T _ (hT.below hb6) q1 q2 HW.out.val64 HW.out.inj HW.out.sle i (by omega)).mono ?_
      rw [HY.out]
      rintro e y4 ⟨rfl, hb7⟩
      replace hb7 := below_step hb6 hb7
      clear hb6
      have c0 := l0 _ hb7
      have c1 := l1 _ hb7
      have c2 := l2 _ hb7
      have c3 := l3 _ hb7
      have c4 := l4 _ hb7
      go_wp2_with fail
      refine (rblock_any T Ap cp Am cm _ HW.out (ic_below hp1 hb7) hcp (hm1.below hb7) i).mono ?_
      rw [HY.out]
      rintro e y5 ⟨rfl, hb8⟩
      replace hb8 := below_step hb7 hb8
      clear hb7 c0 c1 c2 c3 c4
      go_wp2
      go_roundw
      case rel => exact ⟨i + 1, by omega, by omega, by go_num, hb8⟩
      case measure => simp [intOf]; omega
    · have hge : (T.B : Int) + T.P.length + T.S < i := by omega
      go_wp2_with fail
      refine (rsectors_any T Ap cp Am cm _ q1 q2 q3).mono ?_
      rintro e y1 ⟨rfl, hb3⟩
      have hb4 := below_step hb (below_step hb2 hb3)
      go_wp2
      go_ret
      exact ⟨rfl, hb4⟩
end Go.Proofs.Ytlifinlideiloaa
