import Derived.Test.YtlifinlideiloaaDR
/-! DefectCounts, walked. -/
namespace Go.Proofs.Ytlifinlideiloaa
set_option linter.unusedVariables false
set_option linter.unusedSimpArgs false
open Go.RowKit Go.Proofs
open Go.Proofs.YtlifinlideiloaaW.PrintWords

set_option maxRecDepth 100000 in
set_option maxHeartbeats 4000000 in
theorem law_DefectCounts (B S : Int) (A0 : Option Addr) (c0 : Nat) (p : List Int) (A1 : Option Addr) (c1 : Nat) (r : List Int) (w : World)
    (wB : (Lit.int .i64 B).wf = true) (wS : (Lit.int .i64 S).wf = true)
    (h0 : IC .i64 w A0 p) (hc0 : p.length ≤ c0) (y0 : p.length * 8 ≤ 140737488351232) (g0 : ∀ x ∈ p, (Lit.int .i64 x).wf = true)
    (h1 : IC .i64 w A1 r) (hc1 : r.length ≤ c1) (y1 : r.length * 8 ≤ 140737488351232) (g1 : ∀ x ∈ r, (Lit.int .i64 x).wf = true) :
    Calls Try.prog 6 #[.int .i64 B, .int .i64 S, .slice A0 p.length c0, .slice A1 r.length c1] w fun e w' => e = .returned (.bool true) ∧ Below w.heap.size w w' := by
  clear wB wS g0 g1
  by_cases l1 : 40 < B
  · go_enter Try.func6, Try.ntmps6
    go_wp2_with (go_at_call 9; refine (awake_any _).mono ?_; rintro e w1 ⟨rfl, hb1⟩)
    go_ret
    exact ⟨rfl, hb1⟩
  by_cases l2 : 20 < p.length
  · go_enter Try.func6, Try.ntmps6
    go_wp2_with (go_at_call 9; refine (awake_any _).mono ?_; rintro e w1 ⟨rfl, hb1⟩)
    go_ret
    exact ⟨rfl, hb1⟩
  by_cases l3 : 80 < r.length
  · go_enter Try.func6, Try.ntmps6
    go_wp2_with (go_at_call 9; refine (awake_any _).mono ?_; rintro e w1 ⟨rfl, hb1⟩)
    go_ret
    exact ⟨rfl, hb1⟩
  go_enter Try.func6, Try.ntmps6
  go_wp2_with fail
  refine (awake_any _).mono ?_
  rintro e w1 ⟨rfl, hB⟩
  go_wp2_with fail
  refine (new_any B S A0 p.length c0 p _ (ic_below h0 hB) rfl).mono ?_
  rintro e w2 (⟨hv, rfl, rfl⟩ | ⟨hv, t, m, A, c, rfl, hT, ht, hm, hb⟩)
  · go_wp2
    go_ret
    exact ⟨rfl, hB⟩
  have hW := Lib.hid (WT.new hv)
  obtain ⟨v1, v2, v3, v4, v5, -⟩ := hv
  obtain ⟨Bn, rfl⟩ : ∃ n : Nat, B = n := ⟨B.toNat, by omega⟩
  obtain ⟨Sn, rfl⟩ : ∃ n : Nat, S = n := ⟨S.toNat, by omega⟩
  simp only [Int.toNat_natCast] at hT hW
  have ht' : w.heap.size ≤ t := Nat.le_trans hB.size ht
  have hm' : w.heap.size ≤ m := Nat.le_trans hB.size hm
  replace hB := below_step hB hb
  clear hb ht hm
  go_wp2
  go_loopw [11, 49] (fun n i wr => ∃ (k : Nat) (T : Tab), k ≤ r.length ∧ i = .int .i64 k ∧ n = .int .i64 ((p.length : Int) + T.u) ∧ TB wr t m A c T ∧ Hid (WT T) ∧ Hid (T.B = Bn ∧ T.S = Sn ∧ T.P = p) ∧ Below w.heap.size w wr) (fun _ i _ => r.length - (intOf i).toNat)
  case atStart => exact ⟨0, _, by omega, rfl, by simp, hT, hW, Lib.hid ⟨rfl, rfl, rfl⟩, hB⟩
  clear hT hW hB
  case round =>
    obtain ⟨k, T, hk, rfl, rfl, hT, hW, hE, hB⟩ := hrel
    have e1 := hE.out.1
    have e2 := hE.out.2.1
    have e3 : T.P.length = p.length := by rw [hE.out.2.2]
    have q1 : T.B ≤ 4096 := by omega
    have q2 : T.P.length ≤ 256 := by omega
    have q3 : T.S ≤ 64 := by omega
    have q4 := hW.out.u
    have hu64 : T.u ≤ 64 := by omega
    obtain ⟨nn, hnn⟩ : ∃ nn, (p.length : Int) + T.u = nn := ⟨_, rfl⟩
    rw [hnn]
    have nn0 : 0 ≤ nn := by omega
    have nn1 : nn ≤ 100 := by omega
    by_cases hlt : k < r.length
    · obtain ⟨ad, rfl, hcell⟩ := ic_cell (ic_below h1 hB) k hlt
      obtain ⟨b, hb⟩ : ∃ b, rd r k = b := ⟨_, rfl⟩
      rw [hb] at hcell
      clear hb
      by_cases hbr : 0 ≤ b ∧ b < T.B
      · by_cases hful : T.u = T.S
        · obtain ⟨T9, hT9e⟩ : ∃ T9, T9 = T := ⟨_, rfl⟩
          have HRS : Hid (replS T b = (T9, 0, 12)) := Lib.hid (by unfold replS; rw [if_neg (by simpa using hbr), if_pos hful, hT9e])
          have hu' : T9.u = T.u := by rw [hT9e]
          have hW9 : Hid (WT T9) := by rw [hT9e]; exact hW
          have hE9 : Hid (T9.B = Bn ∧ T9.S = Sn ∧ T9.P = p) := by rw [hT9e]; exact hE
          have r3 : T9.S ≤ 64 := by rw [hE9.out.2.1]; omega
          obtain ⟨fr, hfr⟩ : ∃ fr, (T9.S : Int) - T9.u = fr := ⟨_, rfl⟩
          have HFR9 : Hid (∀ W, TB W t m A c T9 → Calls Try.prog 16 #[.pointer (some ⟨t, 0, none⟩)] W fun e w' => e = .returned (.int .i64 fr) ∧ ∃ q, w' = W.drewN q) := Lib.hid (fun W hTW => by rw [← hfr]; exact free_any t m A c T9 W hTW r3 hW9.out.u)
          obtain ⟨ln, hln⟩ : ∃ ln, (badS T9).length = ln := ⟨_, rfl⟩
          have HLEN := Lib.hid hln
          have hln2 := bad_length hW9.out
          rw [hln, hE9.out.2.2] at hln2
          have hu9 := hW9.out.u
          have hS9 := hE9.out.2.1
          have x1 : ((ln : Int) != nn) = false := by simp; omega
          have x2 : (nn - p.length != (Sn : Int) - fr) = false := by simp; omega
          have fr0 : 0 ≤ fr := by omega
          have fr1 : fr ≤ 64 := by omega
          clear hln hln2 hfr hS9 hu9
          have HNV : Hid (Value.int .i64 nn = .int .i64 ((p.length : Int) + T9.u)) := Lib.hid (by rw [hu', hnn])
          clear hful hbr hT9e hu' hnn e1 e2 e3
          go_wp2_with fail
          refine (repl_any t m A c T _ hT q1 q2 q3 q4 hW.out.val64 b).mono ?_
          rw [HRS.out]
          rintro e w9 ⟨rfl, hT9, hbt⟩
          replace hB := But.below hB hbt hB.size ht' hm'
          clear hT hbt
          go_wp2_with fail
          refine (bad_any t m A c T9 _ hT9 hW9.out).mono ?_
          rintro e w10 ⟨v8, rfl, hR8, hb8⟩
          obtain ⟨A8, c8, rfl, hc8⟩ := ir_slice hR8 HLEN.out
          replace hT9 := hT9.below hb8
          replace hB := below_step hB hb8
          clear hR8 hb8 hc8
          go_wp2_with fail
          refine (HFR9.out _ hT9).mono ?_
          rintro e w11 ⟨rfl, q, rfl⟩
          replace hT9 := hT9.drewN q
          replace hB := below_drewN hB q
          generalize w10.drewN q = w11 at hT9 hB ⊢
          go_wp2
          go_roundw
          case rel => exact ⟨k + 1, T9, by omega, by go_num, HNV.out, hT9, hW9, hE9, hB⟩
          case measure => simp [intOf]; omega
        · obtain ⟨T9, hT9e⟩ : ∃ T9, T9 = putT T b := ⟨_, rfl⟩
          have HRS : Hid (replS T b = (T9, (T.B : Int) + T.P.length + T.u, 0)) := Lib.hid (by unfold replS; rw [if_neg (by simpa using hbr), if_neg hful, hT9e])
          have hu' : T9.u = T.u + 1 := by rw [hT9e]; rfl
          have hW9 : Hid (WT T9) := Lib.hid (by rw [hT9e]; exact hW.out.put hbr hful)
          have hE9 : Hid (T9.B = Bn ∧ T9.S = Sn ∧ T9.P = p) := by rw [hT9e]; exact hE
          have r3 : T9.S ≤ 64 := by rw [hE9.out.2.1]; omega
          obtain ⟨fr, hfr⟩ : ∃ fr, (T9.S : Int) - T9.u = fr := ⟨_, rfl⟩
          have HFR9 : Hid (∀ W, TB W t m A c T9 → Calls Try.prog 16 #[.pointer (some ⟨t, 0, none⟩)] W fun e w' => e = .returned (.int .i64 fr) ∧ ∃ q, w' = W.drewN q) := Lib.hid (fun W hTW => by rw [← hfr]; exact free_any t m A c T9 W hTW r3 hW9.out.u)
          obtain ⟨ln, hln⟩ : ∃ ln, (badS T9).length = ln := ⟨_, rfl⟩
          have HLEN := Lib.hid hln
          have hln2 := bad_length hW9.out
          rw [hln, hE9.out.2.2] at hln2
          have hu9 := hW9.out.u
          have hS9 := hE9.out.2.1
          have x1 : ((ln : Int) != (nn + 1)) = false := by simp; omega
          have x2 : ((nn + 1) - p.length != (Sn : Int) - fr) = false := by simp; omega
          have fr0 : 0 ≤ fr := by omega
          have fr1 : fr ≤ 64 := by omega
          clear hln hln2 hfr hS9 hu9
          have HNV : Hid (Value.int .i64 (nn + 1) = .int .i64 ((p.length : Int) + T9.u)) := Lib.hid (by rw [hu', ← hnn]; congr 1)
          obtain ⟨nw, hnw⟩ : ∃ nw, (T.B : Int) + T.P.length + T.u = nw := ⟨_, rfl⟩
          rw [hnw] at HRS
          clear hful hbr hT9e hu' hnn hnw e1 e2 e3
          go_wp2_with fail
          refine (repl_any t m A c T _ hT q1 q2 q3 q4 hW.out.val64 b).mono ?_
          rw [HRS.out]
          rintro e w9 ⟨rfl, hT9, hbt⟩
          replace hB := But.below hB hbt hB.size ht' hm'
          clear hT hbt
          go_wp2_with fail
          refine (bad_any t m A c T9 _ hT9 hW9.out).mono ?_
          rintro e w10 ⟨v8, rfl, hR8, hb8⟩
          obtain ⟨A8, c8, rfl, hc8⟩ := ir_slice hR8 HLEN.out
          replace hT9 := hT9.below hb8
          replace hB := below_step hB hb8
          clear hR8 hb8 hc8
          go_wp2_with fail
          refine (HFR9.out _ hT9).mono ?_
          rintro e w11 ⟨rfl, q, rfl⟩
          replace hT9 := hT9.drewN q
          replace hB := below_drewN hB q
          generalize w10.drewN q = w11 at hT9 hB ⊢
          go_wp2
          go_roundw
          case rel => exact ⟨k + 1, T9, by omega, by go_num, HNV.out, hT9, hW9, hE9, hB⟩
          case measure => simp [intOf]; omega
      · obtain ⟨T9, hT9e⟩ : ∃ T9, T9 = T := ⟨_, rfl⟩
        have HRS : Hid (replS T b = (T9, 0, 2)) := Lib.hid (by unfold replS; rw [if_pos hbr, hT9e])
        have hu' : T9.u = T.u := by rw [hT9e]
        have hW9 : Hid (WT T9) := by rw [hT9e]; exact hW
        have hE9 : Hid (T9.B = Bn ∧ T9.S = Sn ∧ T9.P = p) := by rw [hT9e]; exact hE
        have r3 : T9.S ≤ 64 := by rw [hE9.out.2.1]; omega
        obtain ⟨fr, hfr⟩ : ∃ fr, (T9.S : Int) - T9.u = fr := ⟨_, rfl⟩
        have HFR9 : Hid (∀ W, TB W t m A c T9 → Calls Try.prog 16 #[.pointer (some ⟨t, 0, none⟩)] W fun e w' => e = .returned (.int .i64 fr) ∧ ∃ q, w' = W.drewN q) := Lib.hid (fun W hTW => by rw [← hfr]; exact free_any t m A c T9 W hTW r3 hW9.out.u)
        obtain ⟨ln, hln⟩ : ∃ ln, (badS T9).length = ln := ⟨_, rfl⟩
        have HLEN := Lib.hid hln
        have hln2 := bad_length hW9.out
        rw [hln, hE9.out.2.2] at hln2
        have hu9 := hW9.out.u
        have hS9 := hE9.out.2.1
        have x1 : ((ln : Int) != nn) = false := by simp; omega
        have x2 : (nn - p.length != (Sn : Int) - fr) = false := by simp; omega
        have fr0 : 0 ≤ fr := by omega
        have fr1 : fr ≤ 64 := by omega
        clear hln hln2 hfr hS9 hu9
        have HNV : Hid (Value.int .i64 nn = .int .i64 ((p.length : Int) + T9.u)) := Lib.hid (by rw [hu', hnn])
        clear hbr hT9e hu' hnn e1 e2 e3
        go_wp2_with fail
        refine (repl_any t m A c T _ hT q1 q2 q3 q4 hW.out.val64 b).mono ?_
        rw [HRS.out]
        rintro e w9 ⟨rfl, hT9, hbt⟩
        replace hB := But.below hB hbt hB.size ht' hm'
        clear hT hbt
        go_wp2_with fail
        refine (bad_any t m A c T9 _ hT9 hW9.out).mono ?_
        rintro e w10 ⟨v8, rfl, hR8, hb8⟩
        obtain ⟨A8, c8, rfl, hc8⟩ := ir_slice hR8 HLEN.out
        replace hT9 := hT9.below hb8
        replace hB := below_step hB hb8
        clear hR8 hb8 hc8
        go_wp2_with fail
        refine (HFR9.out _ hT9).mono ?_
        rintro e w11 ⟨rfl, q, rfl⟩
        replace hT9 := hT9.drewN q
        replace hB := below_drewN hB q
        generalize w10.drewN q = w11 at hT9 hB ⊢
        go_wp2
        go_roundw
        case rel => exact ⟨k + 1, T9, by omega, by go_num, HNV.out, hT9, hW9, hE9, hB⟩
        case measure => simp [intOf]; omega
    · obtain rfl : k = r.length := by omega
      have hml := hW.out.len
      have hle : (T.M.length : Int) ≤ nn - p.length := by omega
      clear hnn
      go_wp2_with fail
      refine (replaced_any t m A c T _ hT hW.out).mono ?_
      rintro e w5 ⟨v5, rfl, hR5, hb5⟩
      obtain ⟨A5, c5, rfl, hc5, hC5⟩ := Kd.R_reads hR5
      have hB5 := below_step hB hb5
      clear hR5 hC5 hb5
      go_wp2
      go_ret
      exact ⟨by simp, hB5⟩
end Go.Proofs.Ytlifinlideiloaa
