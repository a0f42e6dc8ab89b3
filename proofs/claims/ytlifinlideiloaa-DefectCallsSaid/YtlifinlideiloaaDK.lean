import Derived.Test.YtlifinlideiloaaDI
/-! DefectMoves, walked. -/
namespace Go.Proofs.Ytlifinlideiloaa
set_option linter.unusedVariables false
set_option linter.unusedSimpArgs false
open Go.RowKit Go.Proofs
open Go.Proofs.YtlifinlideiloaaW.PrintWords

theorem physL_rd (T : Tab) (n i : Nat) (h : i < n) : rd (physL T n) i = (physS T i).1 := by
  unfold rd physL
  simp [List.getD_eq_getElem?_getD, h]
theorem physL_new {T : Tab} (h : WT T) : ((physL T T.B).contains ((T.B : Int) + T.P.length + T.u)) = false := by
  cases hc : (physL T T.B).contains ((T.B : Int) + T.P.length + T.u) with
  | false => rfl
  | true =>
    have hm : ((T.B : Int) + T.P.length + T.u) ∈ physL T T.B := by simpa using hc
    unfold physL at hm
    obtain ⟨i, hi, e⟩ := List.mem_map.1 hm
    have := phys_new h (i := (i : Int)) (by have := List.mem_range.1 hi; omega)
    omega
theorem ir_but {k : IntKind} {e base t m : Nat} {w w1 : World} {v : Value} {xs : List Int} (h : IR k e w base v xs) (hb : But t m w w1) (ht : t < base) (hm : m < base) : IR k e w1 base v xs :=
  ir_of_block h (fun g e => hb.block g (Kd.R_lt h g e) (by have := Kd.R_base h g e; omega) (by have := Kd.R_base h g e; omega))

set_option maxRecDepth 100000 in
set_option maxHeartbeats 4000000 in
theorem law_DefectMoves (B S : Int) (A0 : Option Addr) (c0 : Nat) (p : List Int) (A1 : Option Addr) (c1 : Nat) (r : List Int) (w : World)
    (wB : (Lit.int .i64 B).wf = true) (wS : (Lit.int .i64 S).wf = true)
    (h0 : IC .i64 w A0 p) (hc0 : p.length ≤ c0) (y0 : p.length * 8 ≤ 140737488351232) (g0 : ∀ x ∈ p, (Lit.int .i64 x).wf = true)
    (h1 : IC .i64 w A1 r) (hc1 : r.length ≤ c1) (y1 : r.length * 8 ≤ 140737488351232) (g1 : ∀ x ∈ r, (Lit.int .i64 x).wf = true) :
    Calls Try.prog 5 #[.int .i64 B, .int .i64 S, .slice A0 p.length c0, .slice A1 r.length c1] w fun e w' => e = .returned (.bool true) ∧ Below w.heap.size w w' := by
  clear wB wS g0 g1
  by_cases l1 : 40 < B
  · go_enter Try.func5, Try.ntmps5
    go_wp2_with (go_at_call 9; refine (awake_any _).mono ?_; rintro e w1 ⟨rfl, hb1⟩)
    go_ret
    exact ⟨rfl, hb1⟩
  by_cases l2 : 20 < p.length
  · go_enter Try.func5, Try.ntmps5
    go_wp2_with (go_at_call 9; refine (awake_any _).mono ?_; rintro e w1 ⟨rfl, hb1⟩)
    go_ret
    exact ⟨rfl, hb1⟩
  by_cases l3 : 80 < r.length
  · go_enter Try.func5, Try.ntmps5
    go_wp2_with (go_at_call 9; refine (awake_any _).mono ?_; rintro e w1 ⟨rfl, hb1⟩)
    go_ret
    exact ⟨rfl, hb1⟩
  go_enter Try.func5, Try.ntmps5
  go_wp2_with fail
  refine (awake_any _).mono ?_
  rintro e w1 ⟨rfl, hB⟩
  go_wp2_with fail
  refine (new_any B S A0 p.length c0 p _ (ic_below h0 hB) rfl).mono ?_
  rintro e w2 (⟨hv, rfl, rfl⟩ | ⟨hv, t, m, A, c, rfl, hT, ht, hm, hb⟩)
  · go_wp2
    go_ret
    exact ⟨rfl, hB⟩
  have hW := Lib.hid (WT.new hv)
  obtain ⟨v1, v2, v3, v4, v5, -⟩ := hv
  obtain ⟨Bn, rfl⟩ : ∃ n : Nat, B = n := ⟨B.toNat, by omega⟩
  obtain ⟨Sn, rfl⟩ : ∃ n : Nat, S = n := ⟨S.toNat, by omega⟩
  simp only [Int.toNat_natCast] at hT hW
  have ht' : w.heap.size ≤ t := Nat.le_trans hB.size ht
  have hm' : w.heap.size ≤ m := Nat.le_trans hB.size hm
  replace hB := below_step hB hb
  clear hb ht hm
  go_wp2
  go_loopw [55] (fun i wr => ∃ (k : Nat) (T : Tab), k ≤ r.length ∧ i = .int .i64 k ∧ TB wr t m A c T ∧ Hid (WT T) ∧ Hid (T.B = Bn ∧ T.S = Sn ∧ T.P = p) ∧ Below w.heap.size w wr) (fun i _ => r.length - (intOf i).toNat)
  case atStart => exact ⟨0, _, by omega, rfl, hT, hW, Lib.hid ⟨rfl, rfl, rfl⟩, hB⟩
  clear hT hW hB
  case round =>
    obtain ⟨k, T, hk, rfl, hT, hW, hE, hB⟩ := hrel
    by_cases hlt : k < r.length
    · have e1 := hE.out.1
      have e2 := hE.out.2.1
      have e3 : T.P.length = p.length := by rw [hE.out.2.2]
      have q1 : T.B ≤ 4096 := by omega
      have q2 : T.P.length ≤ 256 := by omega
      have q3 : T.S ≤ 64 := by omega
      have q4 := hW.out.u
      have hTB : Hid (T.B = Bn) := Lib.hid e1
      have f1 : T.B ≤ Bn := by omega
      have f2 : Bn ≤ T.B := by omega
      clear e1 e2 e3
      obtain ⟨ad, rfl, hcell⟩ := ic_cell (ic_below h1 hB) k hlt
      obtain ⟨b, hb⟩ : ∃ b, rd r k = b := ⟨_, rfl⟩
      rw [hb] at hcell
      obtain ⟨wo, rfl⟩ : ∃ wo : World, wo = wr := ⟨_, rfl⟩
      have tlt := hT.lt
      have mlt := hT.map.lt
      have tAlt := Lib.hid (fun a e => (hT.off a e).2.2)
      have hbase := hB.size
      go_wp2
      go_loopw [13, 60] (fun v i wr => ∃ (j : Nat), j ≤ Bn ∧ i = .int .i64 j ∧ IR .i64 3 wr wo.heap.size v (physL T j) ∧ TB wr t m A c T ∧ Below wo.heap.size wo wr) (fun _ i _ => Bn - (intOf i).toNat)
      case atStart => exact ⟨0, by omega, rfl, ir_nil _ _ _ _, hT, Below.refl _ _⟩
      clear hT hcell
      case round =>
        obtain ⟨j, hj, rfl, hR, hT, hb2⟩ := hrel
        by_cases hlj : j < Bn
        · have hkr : 0 ≤ (j : Int) ∧ (j : Int) < T.B := by omega
          have herr := phys_err hW.out hkr
          have hsuc := physL_succ T j
          have hll := physL_length T j
          obtain ⟨x, hx⟩ : ∃ x, (physS T j).1 = x := ⟨_, rfl⟩
          have HPH : Hid (physS T j = (x, 0)) := Lib.hid (by rw [← hx, ← herr])
          have HSU : Hid (physL T (j + 1) = physL T j ++ [x]) := Lib.hid (by rw [hsuc, hx])
          have hll' : (physL T j).length ≤ 40 := by omega
          clear hkr herr hsuc hx hll
          go_wp2_with fail
          refine (phys_any t m A c T _ hT q1 q2 hW.out.val64 j).mono ?_
          rw [HPH.out]
          rintro e w6 ⟨rfl, q, rfl⟩
          replace hT := hT.drewN q
          replace hb2 := below_drewN hb2 q
          replace hR := Kd.R_drewN hR q
          generalize wr.drewN q = w6 at hT hb2 hR ⊢
          have hbs2 := hb2.size
          go_wp2_with (at_builtin; refine ir_app1 (w0 := w6) wo.heap.size .i64 8 3 22 info_int Try.underlying22 (by decide) rfl _ _ rfl u13 (physL T j) x rfl rfl hR (Below.refl _ _) hbs2 (by omega) ?_; intro v7 w7 hR7 hb7 hg7 hat7; have HR7 := Lib.hid hR7; have hbw7 : Below wo.heap.size wo w7 := hb2.grown hg7 hbs2 (fun k e => Kd.R_base hR k e); have hT7 := TB.keep hT hg7 (fun g e => by have := Kd.R_base hR g e; omega) (fun g e => by have := Kd.R_base hR g e; omega) (fun g e a ea => by have := Kd.R_base hR g e; have := tAlt.out a ea; omega); clear hR7 hb7 hg7 hat7)
          go_roundw
          case rel => exact ⟨j + 1, by omega, by go_num, by rw [HSU.out]; exact HR7.out, hT7, hbw7⟩
          case measure => simp [intOf]; omega
        · obtain rfl : j = Bn := by omega
          have hfr := fun W (hW' : TB W t m A c T) => free_any t m A c T W hW' q3 q4
          obtain ⟨fr, hfrd⟩ : ∃ fr, (T.S : Int) - T.u = fr := ⟨_, rfl⟩
          rw [hfrd] at hfr
          have HFR := Lib.hid hfr
          have fr0 : 0 ≤ fr := by omega
          have fr1 : fr ≤ 64 := by omega
          have HFRD := Lib.hid hfrd
          clear hfr hfrd hlj hj
          go_wp2_with fail
          refine (HFR.out _ hT).mono ?_
          rintro e w8 ⟨rfl, q, rfl⟩
          replace hT := hT.drewN q
          replace hR := Kd.R_drewN hR q
          replace hb2 := below_drewN hb2 q
          have hB9 : Below w.heap.size w (wr.drewN q) := below_step hB hb2
          generalize wr.drewN q = w8 at hT hR hB9 ⊢
          clear hb2 hB
          by_cases hbr : 0 ≤ b ∧ b < T.B
          · have b1 := hbr.1
            have b2 : b < j := by omega
            by_cases hful : T.u = T.S
            · have efr : (fr == 0) = true := by have := HFRD.out; simp; omega
              have HRS : Hid (replS T b = (T, 0, 12)) := Lib.hid (by unfold replS; rw [if_neg (by simpa using hbr), if_pos hful])
              have frz : fr ≤ 0 := by have := HFRD.out; omega
              clear hful hbr
              obtain ⟨T9, hT9e⟩ : ∃ T9, T9 = T := ⟨_, rfl⟩
              have HT9 := Lib.hid hT9e
              have hW9 : Hid (WT T9) := by rw [hT9e]; exact hW
              have hE9 : Hid (T9.B = j ∧ T9.S = Sn ∧ T9.P = p) := by rw [hT9e]; exact hE
              have r1 : T9.B ≤ 4096 := by rw [hT9e]; exact q1
              have r2 : T9.P.length ≤ 256 := by rw [hT9e]; exact q2
              have HFR9 : Hid (∀ W, TB W t m A c T9 → Calls Try.prog 16 #[.pointer (some ⟨t, 0, none⟩)] W fun e w' => e = .returned (.int .i64 fr) ∧ ∃ q, w' = W.drewN q) := by rw [hT9e]; exact HFR
              replace HRS : Hid (replS T b = (T9, 0, 12)) := by rw [hT9e]; exact HRS
              clear hT9e

              go_wp2_with fail
              refine (repl_any t m A c T _ hT q1 q2 q3 q4 hW.out.val64 b).mono ?_
              rw [HRS.out]
              rintro e w9 ⟨rfl, hT9, hbt⟩
              replace hB := But.below hB9 hbt hB9.size ht' hm'
              have hR9 := ir_but hR hbt tlt mlt
              clear hT hbt hR hB9
              obtain ⟨A9, c9, rfl, hc9⟩ := ir_slice hR9 (physL_length T j)
              have HC9 := (ir_ic hR9).2.2
              clear hR9
              go_wp2
              go_loopw [117] (fun i wr => ∃ (y : Nat), y ≤ j ∧ i = .int .i64 y ∧ TB wr t m A c T9 ∧ IC .i64 wr A9 (physL T j) ∧ Below w.heap.size w wr) (fun i _ => j - (intOf i).toNat)
              case atStart => exact ⟨0, by omega, rfl, hT9, HC9, hB⟩
              clear hT9 HC9 hB
              case round =>
                obtain ⟨y, hy, rfl, hT9, HC9, hB⟩ := hrel
                by_cases hly : y < j
                · have hkr : 0 ≤ (y : Int) ∧ (y : Int) < T.B := by omega
                  obtain ⟨ad9, rfl, hcell9⟩ := ic_cell HC9 y (by rw [physL_length]; exact hly)
                  rw [physL_rd T j y hly] at hcell9
                  obtain ⟨x, hx⟩ : ∃ x, (physS T y).1 = x := ⟨_, rfl⟩
                  rw [hx] at hcell9
                  have HPH : Hid (physS T9 y = (x, 0)) := Lib.hid (by rw [HT9.out, ← hx, ← phys_err hW.out hkr])
                  clear hkr hx
                  go_wp2_with fail
                  refine (phys_any t m A c T9 _ hT9 r1 r2 hW9.out.val64 y).mono ?_
                  rw [HPH.out]
                  rintro e w10 ⟨rfl, q, rfl⟩
                  replace hT9 := hT9.drewN q
                  replace hB := below_drewN hB q
                  replace HC9 := Kd.C_drewN HC9 q
                  replace hcell9 : (wr.drewN q).cell? _ = _ := hcell9
                  generalize wr.drewN q = w10 at hT9 hB HC9 hcell9 ⊢
                  go_wp2
                  go_roundw
                  case rel => exact ⟨y + 1, by omega, by go_num, hT9, HC9, hB⟩
                  case measure => simp [intOf]; omega
                · obtain rfl : y = j := by omega
                  go_wp2_with fail
                  refine (HFR9.out _ hT9).mono ?_
                  rintro e w11 ⟨rfl, q, rfl⟩
                  replace hT9 := hT9.drewN q
                  replace hB := below_drewN hB q
                  generalize wr.drewN q = w11 at hT9 hB ⊢
                  go_wp2
                  go_roundw
                  case rel => exact ⟨k + 1, T9, by omega, by go_num, hT9, hW9, hE9, hB⟩
                  case measure => simp [intOf]; omega
            · have efr : (fr == 0) = false := by have := HFRD.out; simp; omega
              have frz : 0 < fr := by have := HFRD.out; omega
              obtain ⟨nw, hnw⟩ : ∃ nw, (T.B : Int) + T.P.length + T.u = nw := ⟨_, rfl⟩
              have HNW := Lib.hid hnw
              have HRS : Hid (replS T b = (putT T b, nw, 0)) := Lib.hid (by unfold replS; rw [if_neg (by simpa using hbr), if_neg hful, hnw])
              have HNC : Hid ((physL T j).contains nw = false) := Lib.hid (by rw [← hnw, ← hTB.out]; exact physL_new hW.out)
              obtain ⟨T9, hT9e⟩ : ∃ T9, T9 = putT T b := ⟨_, rfl⟩
              have HT9 := Lib.hid hT9e
              have hW9 : Hid (WT T9) := Lib.hid (by rw [hT9e]; exact hW.out.put hbr hful)
              have hE9 : Hid (T9.B = j ∧ T9.S = Sn ∧ T9.P = p) := Lib.hid (by rw [hT9e]; exact hE.out)
              have r1 : T9.B ≤ 4096 := by rw [hT9e]; exact q1
              have r2 : T9.P.length ≤ 256 := by rw [hT9e]; exact q2
              have hfr9 : ∀ W, TB W t m A c T9 → Calls Try.prog 16 #[.pointer (some ⟨t, 0, none⟩)] W fun e w' => e = .returned (.int .i64 (fr - 1)) ∧ ∃ q, w' = W.drewN q := by
                intro W hTW
                have := free_any t m A c T9 W hTW (by rw [hT9e]; exact q3) (hW9.out.u)
                rw [show ((T9.S : Int) - T9.u) = fr - 1 by rw [hT9e]; have := HFRD.out; show ((T.S : Int) - ((T.u + 1 : Nat) : Int)) = _; omega] at this
                exact this
              have HFR9 := Lib.hid hfr9
              rw [← hT9e] at HRS
              clear hfr9 hT9e hful hnw
              have hbr' := Lib.hid hbr
              clear hbr
              have hbr := hbr'.out
              clear hbr'

              go_wp2_with fail
              refine (repl_any t m A c T _ hT q1 q2 q3 q4 hW.out.val64 b).mono ?_
              rw [HRS.out]
              rintro e w9 ⟨rfl, hT9, hbt⟩
              replace hB := But.below hB9 hbt hB9.size ht' hm'
              have hR9 := ir_but hR hbt tlt mlt
              clear hT hbt hR hB9
              obtain ⟨A9, c9, rfl, hc9⟩ := ir_slice hR9 (physL_length T j)
              have HC9 := (ir_ic hR9).2.2
              clear hR9
              go_wp2
              go_loopw [117] (fun i wr => ∃ (y : Nat), y ≤ j ∧ i = .int .i64 y ∧ TB wr t m A c T9 ∧ IC .i64 wr A9 (physL T j) ∧ Below w.heap.size w wr) (fun i _ => j - (intOf i).toNat)
              case atStart => exact ⟨0, by omega, rfl, hT9, HC9, hB⟩
              clear hT9 HC9 hB
              case round =>
                obtain ⟨y, hy, rfl, hT9, HC9, hB⟩ := hrel
                by_cases hly : y < j
                · have hkr : 0 ≤ (y : Int) ∧ (y : Int) < T.B := by omega
                  obtain ⟨ad9, rfl, hcell9⟩ := ic_cell HC9 y (by rw [physL_length]; exact hly)
                  rw [physL_rd T j y hly] at hcell9
                  by_cases hyb : (y : Int) = b
                  · have eyb : ((y : Int) == b) = true := by simpa using hyb
                    have HPH : Hid (physS T9 y = (nw, 0)) := Lib.hid (by rw [HT9.out, phys_put hW.out hbr, if_pos hyb, HNW.out])
                    clear hkr hcell9 hyb
                    go_wp2_with fail
                    refine (phys_any t m A c T9 _ hT9 r1 r2 hW9.out.val64 y).mono ?_
                    rw [HPH.out]
                    rintro e w10 ⟨rfl, q, rfl⟩
                    replace hT9 := hT9.drewN q
                    replace hB := below_drewN hB q
                    replace HC9 := Kd.C_drewN HC9 q
                    generalize wr.drewN q = w10 at hT9 hB HC9 ⊢
                    go_wp2_with fail
                    refine (contains_any _ j c9 (physL T j) nw _ HC9 (physL_length T j)).mono ?_
                    rw [HNC.out]
                    rintro e w11 ⟨rfl, rfl⟩
                    go_wp2
                    go_roundw
                    case rel => exact ⟨y + 1, by omega, by go_num, hT9, HC9, hB⟩
                    case measure => simp [intOf]; omega
                  · have eyb : ((y : Int) == b) = false := by simpa using hyb
                    obtain ⟨x, hx⟩ : ∃ x, (physS T y).1 = x := ⟨_, rfl⟩
                    rw [hx] at hcell9
                    have HPH : Hid (physS T9 y = (x, 0)) := Lib.hid (by rw [HT9.out, phys_put hW.out hbr, if_neg hyb, ← hx, ← phys_err hW.out hkr])
                    clear hkr hx
                    go_wp2_with fail
                    refine (phys_any t m A c T9 _ hT9 r1 r2 hW9.out.val64 y).mono ?_
                    rw [HPH.out]
                    rintro e w10 ⟨rfl, q, rfl⟩
                    replace hT9 := hT9.drewN q
                    replace hB := below_drewN hB q
                    replace HC9 := Kd.C_drewN HC9 q
                    replace hcell9 : (wr.drewN q).cell? _ = _ := hcell9
                    generalize wr.drewN q = w10 at hT9 hB HC9 hcell9 ⊢
                    go_wp2
                    go_roundw
                    case rel => exact ⟨y + 1, by omega, by go_num, hT9, HC9, hB⟩
                    case measure => simp [intOf]; omega
                · obtain rfl : y = j := by omega
                  go_wp2_with fail
                  refine (HFR9.out _ hT9).mono ?_
                  rintro e w11 ⟨rfl, q, rfl⟩
                  replace hT9 := hT9.drewN q
                  replace hB := below_drewN hB q
                  generalize wr.drewN q = w11 at hT9 hB ⊢
                  go_wp2
                  go_roundw
                  case rel => exact ⟨k + 1, T9, by omega, by go_num, hT9, hW9, hE9, hB⟩
                  case measure => simp [intOf]; omega
          · have HRS : Hid (replS T b = (T, 0, 2)) := Lib.hid (by unfold replS; rw [if_pos hbr])
            have hbr2 : b < 0 ∨ (j : Int) ≤ b := by omega
            clear hbr
            obtain ⟨T9, hT9e⟩ : ∃ T9, T9 = T := ⟨_, rfl⟩
            have HT9 := Lib.hid hT9e
            have hW9 : Hid (WT T9) := by rw [hT9e]; exact hW
            have hE9 : Hid (T9.B = j ∧ T9.S = Sn ∧ T9.P = p) := by rw [hT9e]; exact hE
            have r1 : T9.B ≤ 4096 := by rw [hT9e]; exact q1
            have r2 : T9.P.length ≤ 256 := by rw [hT9e]; exact q2
            have HFR9 : Hid (∀ W, TB W t m A c T9 → Calls Try.prog 16 #[.pointer (some ⟨t, 0, none⟩)] W fun e w' => e = .returned (.int .i64 fr) ∧ ∃ q, w' = W.drewN q) := by rw [hT9e]; exact HFR
            replace HRS : Hid (replS T b = (T9, 0, 2)) := by rw [hT9e]; exact HRS
            clear hT9e
            rcases hbr2 with hbr2 | hbr2
            · have b1 : b < 0 := hbr2

              go_wp2_with fail
              refine (repl_any t m A c T _ hT q1 q2 q3 q4 hW.out.val64 b).mono ?_
              rw [HRS.out]
              rintro e w9 ⟨rfl, hT9, hbt⟩
              replace hB := But.below hB9 hbt hB9.size ht' hm'
              have hR9 := ir_but hR hbt tlt mlt
              clear hT hbt hR hB9
              obtain ⟨A9, c9, rfl, hc9⟩ := ir_slice hR9 (physL_length T j)
              have HC9 := (ir_ic hR9).2.2
              clear hR9
              go_wp2
              go_loopw [117] (fun i wr => ∃ (y : Nat), y ≤ j ∧ i = .int .i64 y ∧ TB wr t m A c T9 ∧ IC .i64 wr A9 (physL T j) ∧ Below w.heap.size w wr) (fun i _ => j - (intOf i).toNat)
              case atStart => exact ⟨0, by omega, rfl, hT9, HC9, hB⟩
              clear hT9 HC9 hB
              case round =>
                obtain ⟨y, hy, rfl, hT9, HC9, hB⟩ := hrel
                by_cases hly : y < j
                · have hkr : 0 ≤ (y : Int) ∧ (y : Int) < T.B := by omega
                  obtain ⟨ad9, rfl, hcell9⟩ := ic_cell HC9 y (by rw [physL_length]; exact hly)
                  rw [physL_rd T j y hly] at hcell9
                  obtain ⟨x, hx⟩ : ∃ x, (physS T y).1 = x := ⟨_, rfl⟩
                  rw [hx] at hcell9
                  have HPH : Hid (physS T9 y = (x, 0)) := Lib.hid (by rw [HT9.out, ← hx, ← phys_err hW.out hkr])
                  clear hkr hx
                  go_wp2_with fail
                  refine (phys_any t m A c T9 _ hT9 r1 r2 hW9.out.val64 y).mono ?_
                  rw [HPH.out]
                  rintro e w10 ⟨rfl, q, rfl⟩
                  replace hT9 := hT9.drewN q
                  replace hB := below_drewN hB q
                  replace HC9 := Kd.C_drewN HC9 q
                  replace hcell9 : (wr.drewN q).cell? _ = _ := hcell9
                  generalize wr.drewN q = w10 at hT9 hB HC9 hcell9 ⊢
                  go_wp2
                  go_roundw
                  case rel => exact ⟨y + 1, by omega, by go_num, hT9, HC9, hB⟩
                  case measure => simp [intOf]; omega
                · obtain rfl : y = j := by omega
                  go_wp2_with fail
                  refine (HFR9.out _ hT9).mono ?_
                  rintro e w11 ⟨rfl, q, rfl⟩
                  replace hT9 := hT9.drewN q
                  replace hB := below_drewN hB q
                  generalize wr.drewN q = w11 at hT9 hB ⊢
                  go_wp2
                  go_roundw
                  case rel => exact ⟨k + 1, T9, by omega, by go_num, hT9, hW9, hE9, hB⟩
                  case measure => simp [intOf]; omega
            · by_cases b1 : 0 ≤ b
              · skip

                go_wp2_with fail
                refine (repl_any t m A c T _ hT q1 q2 q3 q4 hW.out.val64 b).mono ?_
                rw [HRS.out]
                rintro e w9 ⟨rfl, hT9, hbt⟩
                replace hB := But.below hB9 hbt hB9.size ht' hm'
                have hR9 := ir_but hR hbt tlt mlt
                clear hT hbt hR hB9
                obtain ⟨A9, c9, rfl, hc9⟩ := ir_slice hR9 (physL_length T j)
                have HC9 := (ir_ic hR9).2.2
                clear hR9
                go_wp2
                go_loopw [117] (fun i wr => ∃ (y : Nat), y ≤ j ∧ i = .int .i64 y ∧ TB wr t m A c T9 ∧ IC .i64 wr A9 (physL T j) ∧ Below w.heap.size w wr) (fun i _ => j - (intOf i).toNat)
                case atStart => exact ⟨0, by omega, rfl, hT9, HC9, hB⟩
                clear hT9 HC9 hB
                case round =>
                  obtain ⟨y, hy, rfl, hT9, HC9, hB⟩ := hrel
                  by_cases hly : y < j
                  · have hkr : 0 ≤ (y : Int) ∧ (y : Int) < T.B := by omega
                    obtain ⟨ad9, rfl, hcell9⟩ := ic_cell HC9 y (by rw [physL_length]; exact hly)
                    rw [physL_rd T j y hly] at hcell9
                    obtain ⟨x, hx⟩ : ∃ x, (physS T y).1 = x := ⟨_, rfl⟩
                    rw [hx] at hcell9
                    have HPH : Hid (physS T9 y = (x, 0)) := Lib.hid (by rw [HT9.out, ← hx, ← phys_err hW.out hkr])
                    clear hkr hx
                    go_wp2_with fail
                    refine (phys_any t m A c T9 _ hT9 r1 r2 hW9.out.val64 y).mono ?_
                    rw [HPH.out]
                    rintro e w10 ⟨rfl, q, rfl⟩
                    replace hT9 := hT9.drewN q
                    replace hB := below_drewN hB q
                    replace HC9 := Kd.C_drewN HC9 q
                    replace hcell9 : (wr.drewN q).cell? _ = _ := hcell9
                    generalize wr.drewN q = w10 at hT9 hB HC9 hcell9 ⊢
                    go_wp2
                    go_roundw
                    case rel => exact ⟨y + 1, by omega, by go_num, hT9, HC9, hB⟩
                    case measure => simp [intOf]; omega
                  · obtain rfl : y = j := by omega
                    go_wp2_with fail
                    refine (HFR9.out _ hT9).mono ?_
                    rintro e w11 ⟨rfl, q, rfl⟩
                    replace hT9 := hT9.drewN q
                    replace hB := below_drewN hB q
                    generalize wr.drewN q = w11 at hT9 hB ⊢
                    go_wp2
                    go_roundw
                    case rel => exact ⟨k + 1, T9, by omega, by go_num, hT9, hW9, hE9, hB⟩
                    case measure => simp [intOf]; omega
              · exfalso; omega
    · obtain rfl : k = r.length := by omega
      go_wp2
      go_ret
      exact ⟨rfl, hB⟩
end Go.Proofs.Ytlifinlideiloaa
