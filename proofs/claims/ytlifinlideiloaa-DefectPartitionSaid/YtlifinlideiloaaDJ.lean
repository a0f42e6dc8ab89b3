import Derived.Test.YtlifinlideiloaaDI
/-! DefectPartition, walked. -/
namespace Go.Proofs.Ytlifinlideiloaa
set_option linter.unusedVariables false
set_option linter.unusedSimpArgs false
open Go.RowKit Go.Proofs
open Go.Proofs.YtlifinlideiloaaW.PrintWords

set_option maxRecDepth 100000 in
set_option maxHeartbeats 4000000 in
theorem law_DefectPartition (B S : Int) (A0 : Option Addr) (c0 : Nat) (p : List Int) (A1 : Option Addr) (c1 : Nat) (r : List Int) (w : World)
    (wB : (Lit.int .i64 B).wf = true) (wS : (Lit.int .i64 S).wf = true)
    (h0 : IC .i64 w A0 p) (hc0 : p.length ≤ c0) (y0 : p.length * 8 ≤ 140737488351232) (g0 : ∀ x ∈ p, (Lit.int .i64 x).wf = true)
    (h1 : IC .i64 w A1 r) (hc1 : r.length ≤ c1) (y1 : r.length * 8 ≤ 140737488351232) (g1 : ∀ x ∈ r, (Lit.int .i64 x).wf = true) :
    Calls Try.prog 3 #[.int .i64 B, .int .i64 S, .slice A0 p.length c0, .slice A1 r.length c1] w fun e w' => e = .returned (.bool true) ∧ Below w.heap.size w w' := by
  clear wB wS g0 g1
  by_cases l1 : 40 < B
  · go_enter Try.func3, Try.ntmps3
    go_wp2_with (go_at_call 9; refine (awake_any _).mono ?_; rintro e w1 ⟨rfl, hb1⟩)
    go_ret
    exact ⟨rfl, hb1⟩
  by_cases l2 : 20 < p.length
  · go_enter Try.func3, Try.ntmps3
    go_wp2_with (go_at_call 9; refine (awake_any _).mono ?_; rintro e w1 ⟨rfl, hb1⟩)
    go_ret
    exact ⟨rfl, hb1⟩
  by_cases l3 : 80 < r.length
  · go_enter Try.func3, Try.ntmps3
    go_wp2_with (go_at_call 9; refine (awake_any _).mono ?_; rintro e w1 ⟨rfl, hb1⟩)
    go_ret
    exact ⟨rfl, hb1⟩
  go_enter Try.func3, Try.ntmps3
  go_wp2_with fail
  refine (awake_any _).mono ?_
  rintro e w1 ⟨rfl, hB⟩
  go_wp2_with fail
  refine (new_any B S A0 p.length c0 p _ (ic_below h0 hB) rfl).mono ?_
  rintro e w2 (⟨hv, rfl, rfl⟩ | ⟨hv, t, m, A, c, rfl, hT, ht, hm, hb⟩)
  · go_wp2
    go_ret
    exact ⟨rfl, hB⟩
  have hW := Lib.hid (WT.new hv)
  obtain ⟨v1, v2, v3, v4, v5, -⟩ := hv
  obtain ⟨Bn, rfl⟩ : ∃ n : Nat, B = n := ⟨B.toNat, by omega⟩
  obtain ⟨Sn, rfl⟩ : ∃ n : Nat, S = n := ⟨S.toNat, by omega⟩
  simp only [Int.toNat_natCast] at hT hW
  have ht' : w.heap.size ≤ t := Nat.le_trans hB.size ht
  have hm' : w.heap.size ≤ m := Nat.le_trans hB.size hm
  replace hB := below_step hB hb
  clear hb ht hm
  go_wp2
  go_loopw [55] (fun i wr => ∃ (k : Nat) (T : Tab), k ≤ r.length ∧ i = .int .i64 k ∧ TB wr t m A c T ∧ Hid (WT T) ∧ Hid (T.B = Bn ∧ T.S = Sn ∧ T.P = p) ∧ Below w.heap.size w wr) (fun i _ => r.length - (intOf i).toNat)
  case atStart => exact ⟨0, _, by omega, rfl, hT, hW, Lib.hid ⟨rfl, rfl, rfl⟩, hB⟩
  clear hT hW hB
  case round =>
    obtain ⟨k, T, hk, rfl, hT, hW, hE, hB⟩ := hrel
    have e1 := hE.out.1
    have e2 := hE.out.2.1
    have e3 : T.P.length = p.length := by rw [hE.out.2.2]
    have q1 : T.B ≤ 4096 := by omega
    have q2 : T.P.length ≤ 256 := by omega
    have q3 : T.S ≤ 64 := by omega
    have q4 := hW.out.u
    by_cases hlt : k < r.length
    · obtain ⟨ad, rfl, hcell⟩ := ic_cell (ic_below h1 hB) k hlt
      clear e1 e2 e3
      go_wp2_with fail
      refine (repl_any t m A c T _ hT q1 q2 q3 q4 hW.out.val64 (rd r k)).mono ?_
      rintro e w3 ⟨rfl, hT3, hbt⟩
      replace hB := But.below hB hbt hB.size ht' hm'
      clear hT hbt
      go_wp2
      go_roundw
      case rel =>
        refine ⟨k + 1, _, by omega, by go_num, hT3, Lib.hid (hW.out.repl _), Lib.hid ?_, hB⟩
        obtain ⟨x1, x2, x3⟩ := repl_same T (rd r k)
        exact ⟨x1.trans hE.out.1, x2.trans hE.out.2.1, x3.trans hE.out.2.2⟩
      case measure => simp [intOf]; omega
    · obtain rfl : k = r.length := by omega
      obtain ⟨PL0, hPL⟩ : ∃ n, n = p.length := ⟨_, rfl⟩
      have hN : Hid (T.B + T.P.length + T.S = Bn + p.length + Sn) := Lib.hid (by omega)
      have hTB : Hid (T.B = Bn) := Lib.hid e1
      have hTS : Hid (T.S = Sn) := Lib.hid e2
      have f1 : T.B ≤ Bn := by omega
      have f2 : Bn ≤ T.B := by omega
      have f3 : T.S ≤ Sn := by omega
      have f4 : Sn ≤ T.S := by omega
      have f5 : T.P.length ≤ p.length := by omega
      have f6 : p.length ≤ T.P.length := by omega
      clear e1 e2 e3 hPL hE
      obtain ⟨N, hNN⟩ : ∃ N : Nat, N = Bn + p.length + Sn := ⟨_, rfl⟩
      have n1 : N ≤ Bn + p.length + Sn := by omega
      have n2 : Bn + p.length + Sn ≤ N := by omega
      rw [← hNN] at hN
      clear hNN
      obtain ⟨wo, rfl⟩ : ∃ wo : World, wo = wr := ⟨_, rfl⟩
      go_wp2_with (at_make; refine ir_make (w0 := wo) wo.heap.size .i64 8 3 22 info_int Try.underlying22 (by decide) rfl rfl _ _ rfl _ rfl rfl (by omega) (by omega) (Below.refl _ _) (Nat.le_refl _) ?_; intro v4 w4 hR4 hB4 hb4; have HR4 := Lib.hid hR4; clear hR4 hB4; have hg1 := hT.lt; have hg2 := hT.map.lt; have hg3 := Lib.hid (fun a e => (hT.off a e).2.2); have hg0 := hB.size; replace hB := below_step hB hb4; replace hT := hT.below hb4; obtain ⟨A4, c4, rfl, hc4⟩ := ir_slice HR4.out (n := N) (by simp; omega))
      rw [show ((Bn : Int) + p.length + Sn).toNat = N by omega, ← cntR_nil] at HR4
      have hsec := sectors_any t m A c T _ hT q1 q2 q3
      rw [show ((T.B : Int) + T.P.length + T.S) = (N : Int) by omega] at hsec
      have HSEC := Lib.hid hsec
      clear hsec hb4 hc4
      have hg4 := ir_some HR4.out (by omega)
      obtain ⟨g, rfl, hg⟩ := hg4
      have hg5 : w.heap.size ≤ g := by omega
      have gt : g ≠ t := by omega
      have gm : g ≠ m := by omega
      have gA : Hid (∀ a, A = some a → a.block ≠ g) := Lib.hid (fun a e => by have := hg3.out a e; omega)
      clear hg3
      go_wp2_with fail
      refine HSEC.out.mono ?_
      rintro e w5 ⟨rfl, q, rfl⟩
      replace hT := hT.drewN q
      replace hB := below_drewN hB q
      have hR := Kd.R_drewN HR4.out q
      clear HSEC HR4
      generalize w4.drewN q = w5 at hT hB hR ⊢
      go_wp2
      go_loopw [86] (fun i wr => ∃ (k : Nat), k ≤ Bn ∧ i = .int .i64 k ∧ IR .i64 3 wr wo.heap.size (.slice (some ⟨g, 0, none⟩) N c4) (cntR N (physL T k)) ∧ TB wr t m A c T ∧ Below w.heap.size w wr) (fun i _ => Bn - (intOf i).toNat)
      case atStart => exact ⟨0, by omega, rfl, hR, hT, hB⟩
      clear hT hB hR
      case round =>
        obtain ⟨k, hk, rfl, hR, hT, hB⟩ := hrel
        by_cases hlt : k < Bn
        · have hkr : 0 ≤ (k : Int) ∧ (k : Int) < T.B := by omega
          have hpr := phys_range hW.out hkr
          obtain ⟨sn, hsn⟩ : ∃ sn : Nat, (physS T k).1 = sn := ⟨(physS T k).1.toNat, by omega⟩
          have hsN : sn < N := by omega
          have HPH : Hid (physS T k = ((sn : Int), 0)) := Lib.hid (by rw [← hsn, ← phys_err hW.out hkr])
          have HBL : Hid (blockS T sn = ((k : Int), true)) := Lib.hid (by rw [← hsn]; exact block_phys hW.out hkr)
          have HSU : Hid (physL T (k + 1) = physL T k ++ [(sn : Int)]) := Lib.hid (by rw [physL_succ, hsn])
          have hrd := cntR_rd N (physL T k) sn hsN
          have hcl := List.count_le_length (a := (sn : Int)) (l := physL T k)
          rw [physL_length] at hcl
          have hrd0 : 0 ≤ rd (cntR N (physL T k)) sn := by rw [hrd]; omega
          have hrd1 : rd (cntR N (physL T k)) sn ≤ 40 := by rw [hrd]; omega
          have HCS := Lib.hid (cntR_set N (physL T k) sn hsN)
          clear hkr hpr hsn hrd hcl
          go_wp2_with fail
          refine (phys_any t m A c T _ hT q1 q2 hW.out.val64 k).mono ?_
          rw [HPH.out]
          rintro e w6 ⟨rfl, q, rfl⟩
          replace hT := hT.drewN q
          replace hB := below_drewN hB q
          replace hR := Kd.R_drewN hR q
          generalize wr.drewN q = w6 at hT hB hR ⊢
          go_wp2_with fail
          refine (block_any t m A c T _ hT q1 q2 hW.out.val64 hW.out.inj hW.out.sle sn (by omega)).mono ?_
          rw [HBL.out]
          rintro e w7 ⟨rfl, hb7⟩
          replace hT := hT.below hb7
          replace hB := below_step hB hb7
          replace hR := ir_below hR hb7
          clear hb7
          obtain ⟨hx, hxf⟩ := ir_cell hR sn hsN
          go_wp2
          go_roundw
          case rel =>
            refine ⟨k + 1, by omega, by go_num, ?_, ?_, hB.setCell hg5 _⟩
            · have := ir_put hR sn (rd (cntR N (physL T k)) sn + 1)
              rw [HSU.out, ← HCS.out]
              exact this
            · exact hT.other gt gm gA.out _ _
          case measure => simp [intOf]; omega
        · obtain rfl : k = Bn := by omega
          go_wp2_with fail
          refine (bad_any t m A c T _ hT hW.out).mono ?_
          rintro e w8 ⟨v8, rfl, hR8, hb8⟩
          obtain ⟨lb, HLB⟩ : ∃ lb, Hid (badS T = lb) := ⟨_, Lib.hid rfl⟩
          rw [HLB.out] at hR8
          obtain ⟨n8, hn8⟩ : ∃ n, lb.length = n := ⟨_, rfl⟩
          obtain ⟨A8, c8, rfl, hc8⟩ := ir_slice hR8 hn8
          have hA8 : Hid (∀ a, A8 = some a → a.block ≠ g) := Lib.hid (fun a e => by
            have h1 := Kd.R_base hR8 a.block (by rw [e]; rfl)
            have h2 := Kd.R_lt hR g rfl
            omega)
          have hC8 := (ir_ic hR8).2.2
          replace hT := hT.below hb8
          replace hB := below_step hB hb8
          replace hR := ir_below hR hb8
          have hn8' : n8 ≤ 100 := by have := bad_length hW.out; rw [HLB.out] at this; omega
          have HLL : Hid (lb.length = n8) := Lib.hid hn8
          have HND : Hid ((physL T k ++ lb).Nodup) := Lib.hid (by have := all_nodup hW.out; rw [HLB.out, hTB.out] at this; exact this)
          have HRG : Hid (∀ s ∈ lb, 0 ≤ s ∧ s < (N : Int)) := Lib.hid (fun s hs => by have := all_range hW.out s (List.mem_append_right _ (by rw [HLB.out]; exact hs)); rw [hN.out] at this; exact this)
          have HZ : Hid (zerosR (physL T k ++ lb) N = T.S - T.u) := Lib.hid (by have := all_zeros hW.out; rw [HLB.out, hN.out, hTB.out] at this; exact this)
          have HPL := Lib.hid (physL_length T k)
          obtain ⟨L0, HL0⟩ : ∃ L0, Hid (physL T k = L0) := ⟨_, Lib.hid rfl⟩
          rw [HL0.out] at hR HND HZ HPL
          clear hb8 hR8 hn8 hc8 HLB HL0 hN hTB f1 f2 hk hlt
          go_wp2
          go_loopw [130] (fun i wr => ∃ (j : Nat), j ≤ n8 ∧ i = .int .i64 j ∧ IR .i64 3 wr wo.heap.size (.slice (some ⟨g, 0, none⟩) N c4) (cntR N (L0 ++ lb.take j)) ∧ TB wr t m A c T ∧ IC .i64 wr A8 lb ∧ Below w.heap.size w wr) (fun i _ => n8 - (intOf i).toNat)
          case atStart => exact ⟨0, by omega, rfl, by simpa using hR, hT, hC8, hB⟩
          clear hT hB hR hC8
          case round =>
            obtain ⟨j, hj, rfl, hR, hT, hC8, hB⟩ := hrel
            by_cases hlt : j < n8
            · have hjl : j < lb.length := by rw [HLL.out]; exact hlt
              obtain ⟨ad8, rfl, hcell8⟩ := ic_cell hC8 j hjl
              have hsr := HRG.out _ (rd_mem hjl)
              have HTK := Lib.hid (take_succ_rd lb j hjl)
              obtain ⟨sn, hsn⟩ : ∃ sn : Nat, rd lb j = sn := ⟨(rd lb j).toNat, by omega⟩
              have hsN : sn < N := by omega
              rw [hsn] at hcell8 HTK
              have hrd := cntR_rd N (L0 ++ lb.take j) sn hsN
              have hcl := List.count_le_length (a := (sn : Int)) (l := L0 ++ lb.take j)
              rw [List.length_append, HPL.out, List.length_take] at hcl
              have hrd0 : 0 ≤ rd (cntR N (L0 ++ lb.take j)) sn := by rw [hrd]; omega
              have hrd1 : rd (cntR N (L0 ++ lb.take j)) sn ≤ 200 := by rw [hrd]; omega
              have HCS := Lib.hid (cntR_set N (L0 ++ lb.take j) sn hsN)
              clear hsr hsn hrd hcl hjl
              obtain ⟨hx, hxf⟩ := ir_cell hR sn hsN
              go_wp2
              go_roundw
              case rel =>
                refine ⟨j + 1, by omega, by go_num, ?_, hT.other gt gm gA.out _ _, ic_of_block hC8 (fun a e => Below.heap_setCell _ _ _ _ (hA8.out a e)), hB.setCell hg5 _⟩
                have := ir_put hR sn (rd (cntR N (L0 ++ lb.take j)) sn + 1)
                rw [HTK.out, ← List.append_assoc, ← HCS.out]
                exact this
              case measure => simp [intOf]; omega
            · obtain rfl : j = n8 := by omega
              have hfull : lb.take j = lb := by rw [← HLL.out]; exact List.take_length
              rw [hfull] at hR
              clear hfull hlt hj HRG HLL hC8 hA8
              obtain ⟨w9, rfl⟩ : ∃ w9 : World, w9 = wr := ⟨_, rfl⟩
              have HZL := Lib.hid (zerosR_le (L0 ++ lb))
              go_wp2
              go_loop [21, 151] (fun f i => ∃ (j : Nat), j ≤ N ∧ i = .int .i64 j ∧ f = .int .i64 (zerosR (L0 ++ lb) j : Nat)) (fun _ i => N - (intOf i).toNat)
              case atStart => exact ⟨0, by omega, rfl, rfl⟩
              case round =>
                obtain ⟨i, hi, rfl, rfl⟩ := hrel
                by_cases hlt : i < N
                · obtain ⟨hx, hxf⟩ := ir_cell hR i hlt
                  have hle := cntR_le N _ HND.out i hlt
                  have hle1 := hle.1
                  have hle2 := hle.2
                  have hzs := zerosR_succ N (L0 ++ lb) i hlt
                  have hzl := zerosR_le (L0 ++ lb) i
                  by_cases hz : rd (cntR N (L0 ++ lb)) i = 0
                  · rw [if_pos hz] at hzs
                    have ez : (rd (cntR N (L0 ++ lb)) i == 0) = true := by simpa using hz
                    have HZS := Lib.hid hzs
                    clear hz hzs hle
                    go_wp2
                    go_round
                    case rel => exact ⟨i + 1, by omega, by go_num, by rw [HZS.out]; go_num⟩
                    case measure => simp [intOf]; omega
                  · rw [if_neg hz] at hzs
                    have ez : (rd (cntR N (L0 ++ lb)) i == 0) = false := by simpa using hz
                    have HZS := Lib.hid hzs
                    clear hz hzs hle
                    go_wp2
                    go_round
                    case rel => exact ⟨i + 1, by omega, by go_num, by rw [HZS.out]⟩
                    case measure => simp [intOf]; omega
                · obtain rfl : i = N := by omega
                  have hfr := free_any t m A c T _ hT q3 q4
                  rw [show ((T.S : Int) - T.u) = ((zerosR (L0 ++ lb) i : Nat) : Int) by rw [HZ.out]; omega] at hfr
                  have HFR := Lib.hid hfr
                  clear hfr
                  generalize zerosR (L0 ++ lb) i = z at HFR ⊢
                  go_wp2_with fail
                  refine HFR.out.mono ?_
                  rintro e w10 ⟨rfl, q, rfl⟩
                  go_wp2
                  go_ret
                  exact ⟨by simp, below_drewN hB q⟩
end Go.Proofs.Ytlifinlideiloaa
