import Derived.Test.YtlifinlideiloaaDI
import Derived.Test.YtlifinlideiloaaK5
/-! DefectStores, walked. -/
namespace Go.Proofs.Ytlifinlideiloaa
set_option linter.unusedVariables false
set_option linter.unusedSimpArgs false
open Go.RowKit Go.Proofs
open Go.Proofs.YtlifinlideiloaaW.PrintWords

/-- what has been written can be found, but perhaps for block b -/
def Found (T : Tab) (D W : PL) (b : Int) : Prop := ∀ x ∈ W, 0 ≤ x.1 ∧ x.1 < T.B ∧ (x.1 ≠ b → look D (physS T x.1).1 = some x.2)
theorem found_put {T : Tab} (h : WT T) {D W : PL} {b : Int} (hb : 0 ≤ b ∧ b < T.B) (hf : Found T D W b) : Found (putT T b) D W b := by
  intro x hx
  obtain ⟨h1, h2, h3⟩ := hf x hx
  refine ⟨h1, h2, fun hn => ?_⟩
  rw [phys_put h hb, if_neg hn]
  exact h3 hn
theorem found_store {T : Tab} (h : WT T) {D W : PL} {b k : Int} (hb : 0 ≤ b ∧ b < T.B) (hf : Found T D W b) : Found T (putL (physS T b).1 k D) (putL b k W) (-1) := by
  intro x hx
  rcases mem_putL.1 hx with rfl | ⟨hx, hn⟩
  · exact ⟨hb.1, hb.2, fun _ => by rw [look_putL, if_pos rfl]⟩
  · obtain ⟨h1, h2, h3⟩ := hf x hx
    refine ⟨h1, h2, fun _ => ?_⟩
    rw [look_putL, if_neg (fun e => hn (phys_inj h ⟨h1, h2⟩ hb e.symm)), h3 hn]
theorem found_weak {T : Tab} {D W : PL} {b : Int} (hf : Found T D W (-1)) : Found T D W b := fun x hx => by
  obtain ⟨h1, h2, h3⟩ := hf x hx
  exact ⟨h1, h2, fun _ => h3 (by omega)⟩

def tabU (w : World) (t : Nat) : Nat := match w.cell? ⟨t, 2, none⟩ with | some (.int _ q) => q.toNat | _ => 0
theorem tabU_eq {w : World} {t m : Nat} {A : Option Addr} {c : Nat} {T : Tab} (h : TB w t m A c T) : tabU w t = T.u := by
  unfold tabU
  rw [h.cells.2.2.1]
  simp

set_option maxRecDepth 100000 in
set_option maxHeartbeats 4000000 in
theorem law_DefectStores (B S : Int) (A0 : Option Addr) (c0 : Nat) (p : List Int) (A2 : Option Addr) (c2 : Nat) (fl : List Bool) (A1 : Option Addr) (c1 : Nat) (r : List Int) (w : World)
    (wB : (Lit.int .i64 B).wf = true) (wS : (Lit.int .i64 S).wf = true)
    (h0 : IC .i64 w A0 p) (hc0 : p.length ≤ c0) (y0 : p.length * 8 ≤ 140737488351232) (g0 : ∀ x ∈ p, (Lit.int .i64 x).wf = true)
    (h2 : BC w A2 fl) (hc2 : fl.length ≤ c2)
    (h1 : IC .i64 w A1 r) (hc1 : r.length ≤ c1) (y1 : r.length * 8 ≤ 140737488351232) (g1 : ∀ x ∈ r, (Lit.int .i64 x).wf = true) :
    Calls Try.prog 4 #[.int .i64 B, .int .i64 S, .slice A0 p.length c0, .slice A2 fl.length c2, .slice A1 r.length c1] w fun e w' => e = .returned (.bool true) ∧ Below w.heap.size w w' := by
  clear wB wS g0 g1
  have hfl := bc_max h2
  by_cases l1 : 40 < B
  · go_enter Try.func4, Try.ntmps4
    go_wp2_with (go_at_call 9; refine (awake_any _).mono ?_; rintro e w1 ⟨rfl, hb1⟩)
    go_ret
    exact ⟨rfl, hb1⟩
  by_cases l2 : 20 < p.length
  · go_enter Try.func4, Try.ntmps4
    go_wp2_with (go_at_call 9; refine (awake_any _).mono ?_; rintro e w1 ⟨rfl, hb1⟩)
    go_ret
    exact ⟨rfl, hb1⟩
  by_cases l3 : 80 < r.length
  · go_enter Try.func4, Try.ntmps4
    go_wp2_with (go_at_call 9; refine (awake_any _).mono ?_; rintro e w1 ⟨rfl, hb1⟩)
    go_ret
    exact ⟨rfl, hb1⟩
  have hmm := @run_makeMap Try.prog
  go_enter Try.func4, Try.ntmps4
  go_wp2_with fail
  refine (awake_any _).mono ?_
  rintro e w1 ⟨rfl, hB⟩
  go_wp2_with fail
  refine (new_any B S A0 p.length c0 p _ (ic_below h0 hB) rfl).mono ?_
  rintro e w2 (⟨hv, rfl, rfl⟩ | ⟨hv, t, m, A, c, rfl, hT, ht, hm, hb⟩)
  · go_wp2
    go_ret
    exact ⟨rfl, hB⟩
  have hW := Lib.hid (WT.new hv)
  obtain ⟨v1, v2, v3, v4, v5, -⟩ := hv
  obtain ⟨Bn, rfl⟩ : ∃ n : Nat, B = n := ⟨B.toNat, by omega⟩
  obtain ⟨Sn, rfl⟩ : ∃ n : Nat, S = n := ⟨S.toNat, by omega⟩
  simp only [Int.toNat_natCast] at hT hW
  have ht' : w.heap.size ≤ t := Nat.le_trans hB.size ht
  have hm' : w.heap.size ≤ m := Nat.le_trans hB.size hm
  replace hB := below_step hB hb
  clear hb ht hm
  have tlt := hT.lt
  have mlt := hT.map.lt
  have tAlt := Lib.hid (fun a e => (hT.off a e).2.2)
  have hD := World.ownsMap.alloc (im_made w2 Try.prog 3 3 .i64) (.map #[] 0)
  have hM := im_made (w2.alloc (.map #[] 0)) Try.prog 3 3 .i64
  have hBe : Below w2.heap.size w2 ((w2.alloc (.map #[] 0)).alloc (.map #[] 0)) := ((Below.refl _ _).alloc (Nat.le_refl _) _).alloc (by simp) _
  replace hT := hT.below hBe
  replace hB := below_step hB hBe
  have hwd : w.heap.size ≤ w2.heap.size := by omega
  have hsz2 : (w2.alloc (.map #[] 0)).heap.size = w2.heap.size + 1 := by simp
  rw [hsz2] at hM
  obtain ⟨md, hmd⟩ : ∃ md, md = w2.heap.size := ⟨_, rfl⟩
  go_wp2
  rw [← hmd] at hD hM hsz2 hwd tlt mlt tAlt ⊢
  clear hBe hmd
  generalize (w2.alloc (.map #[] 0)).alloc (.map #[] 0) = w3 at hT hB hD hM ⊢
  go_loopw [58] (fun i wr => ∃ (k : Nat) (T : Tab) (D W : PL) (nd nw : Nat), k ≤ r.length ∧ i = .int .i64 k ∧ TB wr t m A c T ∧ Hid (WT T) ∧ Hid (T.B = Bn ∧ T.S = Sn ∧ T.P = p) ∧ IMi wr md nd D ∧ IMi wr (md + 1) nw W ∧ nd ≤ k ∧ nw ≤ k ∧ Hid (Found T D W (-1)) ∧ Below w.heap.size w wr) (fun i _ => r.length - (intOf i).toNat)
  case atStart => exact ⟨0, _, [], [], 0, 0, by omega, rfl, hT, hW, Lib.hid ⟨rfl, rfl, rfl⟩, hD, hM, by omega, by omega, Lib.hid (fun x hx => by simp at hx), hB⟩
  clear hT hW hB hD hM
  case round =>
    obtain ⟨k, T, D, W, nd, nw, hk, rfl, hT, hW, hE, hD, hM, hnd, hnw, hF, hB⟩ := hrel
    have e1 := hE.out.1
    have e2 := hE.out.2.1
    have e3 : T.P.length = p.length := by rw [hE.out.2.2]
    have q1 : T.B ≤ 4096 := by omega
    have q2 : T.P.length ≤ 256 := by omega
    have q3 : T.S ≤ 64 := by omega
    have q4 := hW.out.u
    have f1 : T.B ≤ Bn := by omega
    have f2 : Bn ≤ T.B := by omega
    clear e1 e2 e3
    by_cases hlt : k < r.length
    · obtain ⟨ad, rfl, hcell⟩ := ic_cell (ic_below h1 hB) k hlt
      obtain ⟨b, hb⟩ : ∃ b, rd r k = b := ⟨_, rfl⟩
      rw [hb] at hcell
      clear hb
      obtain ⟨wo, rfl⟩ : ∃ wo : World, wo = wr := ⟨_, rfl⟩
      by_cases hbr : 0 ≤ b ∧ b < T.B
      · have HBR := Lib.hid hbr
        have b1 := hbr.1
        have b2 := hbr.2
        have b3 : b < Bn := by omega
        have HPH : Hid (physS T b = ((physS T b).1, 0)) := Lib.hid (by rw [← phys_err hW.out hbr])
        clear hbr
        go_wp2_with fail
        refine (phys_any t m A c T _ hT q1 q2 hW.out.val64 b).mono ?_
        rw [HPH.out]
        rintro e w6 ⟨rfl, q, rfl⟩
        replace hT := hT.drewN q
        replace hB := below_drewN hB q
        replace hD := im_of_block (w' := wo.drewN q) hD rfl
        replace hM := im_of_block (w' := wo.drewN q) hM rfl
        generalize wo.drewN q = w6 at hT hB hD hM ⊢
        clear hcell
        go_wp2
        go_loopw [17, 18] (fun s e wr => ∃ (T : Tab) (s0 e0 : Int), s = .int .i64 s0 ∧ e = .int .i64 e0 ∧ TB wr t m A c T ∧ Hid (WT T) ∧ Hid (T.B = Bn ∧ T.S = Sn ∧ T.P = p) ∧ IMi wr md nd D ∧ IMi wr (md + 1) nw W ∧ Hid (Found T D W b) ∧ Below w.heap.size w wr ∧ Hid ((e0 = 0 ∧ s0 = (physS T b).1) ∨ (e0 = 12 ∧ T.u = T.S))) (fun _ e wr => Sn - tabU wr t + (1 - (intOf e).toNat))
        case atStart => exact ⟨T, _, _, rfl, rfl, hT, hW, hE, hD, hM, Lib.hid (found_weak hF.out), hB, Lib.hid (.inl ⟨rfl, rfl⟩)⟩
        clear hT hW hE hD hM hF hB q1 q2 q3 q4 f1 f2 HPH HBR
        case round =>
          obtain ⟨T, s0, e0, rfl, rfl, hT, hW, hE, hD, hM, hF, hB, hcase⟩ := hrel
          have e1 := hE.out.1
          have e2 := hE.out.2.1
          have e3 : T.P.length = p.length := by rw [hE.out.2.2]
          have q1 : T.B ≤ 4096 := by omega
          have q2 : T.P.length ≤ 256 := by omega
          have q3 : T.S ≤ 64 := by omega
          have q4 := hW.out.u
          have f1 : T.B ≤ Bn := by omega
          have f2 : Bn ≤ T.B := by omega
          have f3 : T.S ≤ Sn := by omega
          have f4 : Sn ≤ T.S := by omega
          clear e1 e2 e3
          have hu := tabU_eq hT
          rcases hcase.out with ⟨he, hs⟩ | ⟨he, hs⟩
          · subst he
            have hbr : 0 ≤ b ∧ b < T.B := by omega
            have hpr := phys_range hW.out hbr
            rw [← hs] at hpr
            have s1 := hpr.1
            have s2 : s0 ≤ 5000 := by omega
            clear hpr
            by_cases hgo : s0 < fl.length ∧ fl.getD s0.toNat false = true
            · obtain ⟨sn, rfl⟩ := Int.eq_ofNat_of_zero_le s1
              obtain ⟨adf, rfl, hcf⟩ := bc_cell (bc_below h2 hB) sn (by omega)
              have g1 : (sn : Int) < fl.length := hgo.1
              have g2 : fl.getD sn false = true := by simpa using hgo.2
              rw [g2] at hcf
              clear hgo g2 hs
              by_cases hful : T.u = T.S
              · have HRS : Hid (replS T b = (T, 0, 12)) := Lib.hid (by unfold replS; rw [if_neg (by simpa using hbr), if_pos hful])
                have HFU := Lib.hid hful
                clear hful
                go_wp2_with fail
                refine (repl_any t m A c T _ hT q1 q2 q3 q4 hW.out.val64 b).mono ?_
                rw [HRS.out]
                rintro e w7 ⟨rfl, hT7, hbt⟩
                have hB7 := But.below hB hbt hB.size ht' hm'
                have hD7 := im_of_block hD (hbt.block md hD.lt (by omega) (by omega))
                have hM7 := im_of_block hM (hbt.block (md + 1) hM.lt (by omega) (by omega))
                have hu7 := tabU_eq hT7
                clear hbt
                go_wp2
                go_roundw
                case rel => exact ⟨T, 0, 12, rfl, rfl, hT7, hW, hE, hD7, hM7, hF, hB7, Lib.hid (.inr ⟨rfl, HFU.out⟩)⟩
                case measure => rw [hu7, hu]; simp [intOf]
              · have HRS : Hid (replS T b = (putT T b, (T.B : Int) + T.P.length + T.u, 0)) := Lib.hid (by unfold replS; rw [if_neg (by simpa using hbr), if_neg hful])
                have HPN : Hid ((T.B : Int) + T.P.length + T.u = (physS (putT T b) b).1) := Lib.hid (by rw [phys_put hW.out hbr, if_pos rfl])
                have hW7 : Hid (WT (putT T b)) := Lib.hid (hW.out.put hbr hful)
                have hF7 : Hid (Found (putT T b) D W b) := Lib.hid (found_put hW.out hbr hF.out)
                have hlt7 : T.u < T.S := by omega
                clear hful
                go_wp2_with fail
                refine (repl_any t m A c T _ hT q1 q2 q3 q4 hW.out.val64 b).mono ?_
                rw [HRS.out]
                rintro e w7 ⟨rfl, hT7, hbt⟩
                have hB7 := But.below hB hbt hB.size ht' hm'
                have hD7 := im_of_block hD (hbt.block md hD.lt (by omega) (by omega))
                have hM7 := im_of_block hM (hbt.block (md + 1) hM.lt (by omega) (by omega))
                have hu7 : tabU w7 t = T.u + 1 := tabU_eq hT7
                clear hbt
                go_wp2
                go_roundw
                case rel => exact ⟨putT T b, _, 0, rfl, rfl, hT7, hW7, hE, hD7, hM7, hF7, hB7, Lib.hid (.inl ⟨rfl, HPN.out⟩)⟩
                case measure => rw [hu7, hu]; simp [intOf]; omega
            · by_cases g1 : s0 < fl.length
              · have g2 : fl.getD s0.toNat false = false := by
                  cases hg : fl.getD s0.toNat false with
                  | false => rfl
                  | true => exact absurd ⟨g1, hg⟩ hgo
                obtain ⟨sn, rfl⟩ := Int.eq_ofNat_of_zero_le s1
                obtain ⟨adf, rfl, hcf⟩ := bc_cell (bc_below h2 hB) sn (by omega)
                rw [Int.toNat_natCast] at g2
                rw [g2] at hcf
                clear hgo g2
                have hFS : Hid (Found T (putL sn k D) (putL b k W) (-1)) := Lib.hid (by rw [hs]; exact found_store hW.out hbr hF.out)
                have hml : (100 : Nat) < maxLen := by unfold maxLen; omega
                clear hs hbr
                go_wp2_with (first | (at_mapUpdate; refine im_put _ rfl _ _ _ 36 rfl 3 3 .i64 Try.underlying3 Try.underlying36 Try.underlying3 md nd D rfl hD (by omega) sn k rfl rfl (wf_i64 (by omega) (by omega)) (wf_i64 (by omega) (by omega)) ?_; intro w7 hD7 hg7; have hT7 := TB.keep hT hg7 (fun g e => by injection e with e; omega) (fun g e => by injection e with e; omega) (fun g e a ea => by injection e with e; have := tAlt.out a ea; omega); have hM7 := im_of_block hM (hg7.block (md + 1) hM.lt (by intro e; injection e with e; omega)); have hB7 := hB.grown hg7 hB.size (fun k e => by injection e with e; omega); clear hg7) | (at_mapUpdate; refine im_put _ rfl _ _ _ 36 rfl 3 3 .i64 Try.underlying3 Try.underlying36 Try.underlying3 (md + 1) nw W rfl hM7 (by omega) b k rfl rfl (wf_i64 (by omega) (by omega)) (wf_i64 (by omega) (by omega)) ?_; intro w8 hM8 hg8; have hT8 := TB.keep hT7 hg8 (fun g e => by injection e with e; omega) (fun g e => by injection e with e; omega) (fun g e a ea => by injection e with e; have := tAlt.out a ea; omega); have hD8 := im_of_block hD7 (hg8.block md hD7.lt (by intro e; injection e with e; omega)); have hB8 := hB7.grown hg8 hB7.size (fun k e => by injection e with e; omega); clear hg8))
                go_roundw
                case rel => exact ⟨k + 1, T, _, _, nd + 1, nw + 1, by omega, by go_num, hT8, hW, hE, hD8, hM8, by omega, by omega, hFS, hB8⟩
                case measure => simp [intOf]; omega
              · clear hgo
                have hFS : Hid (Found T (putL s0 k D) (putL b k W) (-1)) := Lib.hid (by rw [hs]; exact found_store hW.out hbr hF.out)
                have hml : (100 : Nat) < maxLen := by unfold maxLen; omega
                clear hs hbr
                go_wp2_with (first | (at_mapUpdate; refine im_put _ rfl _ _ _ 36 rfl 3 3 .i64 Try.underlying3 Try.underlying36 Try.underlying3 md nd D rfl hD (by omega) s0 k rfl rfl (wf_i64 (by omega) (by omega)) (wf_i64 (by omega) (by omega)) ?_; intro w7 hD7 hg7; have hT7 := TB.keep hT hg7 (fun g e => by injection e with e; omega) (fun g e => by injection e with e; omega) (fun g e a ea => by injection e with e; have := tAlt.out a ea; omega); have hM7 := im_of_block hM (hg7.block (md + 1) hM.lt (by intro e; injection e with e; omega)); have hB7 := hB.grown hg7 hB.size (fun k e => by injection e with e; omega); clear hg7) | (at_mapUpdate; refine im_put _ rfl _ _ _ 36 rfl 3 3 .i64 Try.underlying3 Try.underlying36 Try.underlying3 (md + 1) nw W rfl hM7 (by omega) b k rfl rfl (wf_i64 (by omega) (by omega)) (wf_i64 (by omega) (by omega)) ?_; intro w8 hM8 hg8; have hT8 := TB.keep hT7 hg8 (fun g e => by injection e with e; omega) (fun g e => by injection e with e; omega) (fun g e a ea => by injection e with e; have := tAlt.out a ea; omega); have hD8 := im_of_block hD7 (hg8.block md hD7.lt (by intro e; injection e with e; omega)); have hB8 := hB7.grown hg8 hB7.size (fun k e => by injection e with e; omega); clear hg8))
                go_roundw
                case rel => exact ⟨k + 1, T, _, _, nd + 1, nw + 1, by omega, by go_num, hT8, hW, hE, hD8, hM8, by omega, by omega, hFS, hB8⟩
                case measure => simp [intOf]; omega
          · subst he
            have hfr := fun W (hW' : TB W t m A c T) => free_any t m A c T W hW' q3 q4
            rw [show (T.S : Int) - T.u = 0 by omega] at hfr
            have HFR := Lib.hid hfr
            clear hfr hs hcase
            go_wp2_with fail
            refine (HFR.out _ hT).mono ?_
            rintro e w7 ⟨rfl, q, rfl⟩
            go_wp2
            go_ret
            exact ⟨rfl, below_drewN hB q⟩
      · have HPH : Hid (physS T b = (0, 2)) := Lib.hid (by unfold physS; rw [if_neg hbr])
        clear hbr
        go_wp2_with fail
        refine (phys_any t m A c T _ hT q1 q2 hW.out.val64 b).mono ?_
        rw [HPH.out]
        rintro e w6 ⟨rfl, q, rfl⟩
        go_wp2
        go_roundw
        case rel => exact ⟨k + 1, T, D, W, nd, nw, by omega, by go_num, hT.drewN q, hW, hE, im_of_block hD rfl, im_of_block hM rfl, by omega, by omega, hF, below_drewN hB q⟩
        case measure => simp [intOf]; omega
    · obtain rfl : k = r.length := by omega
      obtain ⟨wo, rfl⟩ : ∃ wo : World, wo = wr := ⟨_, rfl⟩
      have hsrt := im_srt (Maps.int_keyed Try.underlying3) hM
      go_wp2_with (at_range; refine im_range _ rfl _ 36 rfl 3 3 .i64 Try.underlying3 Try.underlying36 (md + 1) nw W rfl hM ?_; intro w7 cnt0 hr7 hg7 hs7)
      go_frame
      have hb7 : Below wo.heap.size wo w7 := (Below.refl _ _).grown hg7 (Nat.le_refl _) (fun k e => by cases e)
      clear hg7 hs7
      go_loopw [113] (fun _ wr => ∃ (rem : PL) (cnt : Nat), MR Try.prog 3 3 .i64 wr (md + 1) wo.heap.size nw W rem cnt ∧ Hid (∀ x ∈ rem, x ∈ W) ∧ Below wo.heap.size wo wr) (fun _ wr => wr.rangeLeft (md + 1) wo.heap.size)
      case atStart => exact ⟨W, cnt0, hr7, Lib.hid (fun x h => h), hb7⟩
      clear hr7 hb7
      case round =>
        obtain ⟨rem, cnt, hr, hsub, hb⟩ := hrel
        go_wp2_with (at_next; refine im_next _ rfl _ rfl 3 3 .i64 Try.underlying3 Try.underlying3 (md + 1) wo.heap.size nw W rem cnt rfl hr hsrt hsub.out ?_ ?_)
        · intro hrem
          go_wp2
          go_ret
          exact ⟨rfl, below_step hB hb⟩
        · intro x cv w8 cnt8 hwx hwc hmem hr8 hlt8 hg8 hs8 hen
          obtain ⟨x1, x2, x3⟩ := hF.out _ (hsub.out _ hmem)
          have hlk := x3 (by simp only; omega)
          simp only at x1 x2 hlk
          obtain ⟨sx, hsx⟩ : ∃ sx, (physS T x).1 = sx := ⟨_, rfl⟩
          have hpr := phys_range hW.out ⟨x1, x2⟩
          rw [hsx] at hpr hlk
          have p1 := hpr.1
          have p2 : sx ≤ 5000 := by omega
          have HPH : Hid (physS T x = (sx, 0)) := Lib.hid (by rw [← hsx, ← phys_err hW.out ⟨x1, x2⟩])
          have i1 : (look D sx).isSome = true := by rw [hlk]; rfl
          have i2 : (look D sx).getD 0 = cv := by rw [hlk]; rfl
          clear hpr hsx hlk x3
          have hb8 : Below wo.heap.size wo w8 := hb.grown hg8 hb.size (fun k e => by injection e with e; omega)
          have hT8 := hT.below hb8
          clear hg8 hs8
          go_wp2_with fail
          refine (phys_any t m A c T _ hT8 q1 q2 hW.out.val64 x).mono ?_
          rw [HPH.out]
          rintro e w9 ⟨rfl, q, rfl⟩
          have hb9 := below_drewN hb8 q
          have hr9 := mr_of_block (w' := w8.drewN q) hr8 rfl rfl
          clear hT8 hb8 hr8 hen
          generalize w8.drewN q = w9 at hb9 hr9 ⊢
          have hD9 := im_of_block hD (hb9.block md hD.lt)
          go_wp2_with (at_lookup; refine im_look_ok _ rfl _ _ 36 rfl 3 3 .i64 Try.underlying3 Try.underlying36 Try.underlying3 (zeroInt _) md nd D rfl hD9 sx rfl (wf_i64 (by omega) (by omega)) ?_)
          go_roundw
          case rel => exact ⟨strL x rem, cnt8, hr9, Lib.hid (fun y hy => hsub.out y (List.mem_filter.1 hy).1), hb9⟩
          case measure => rw [hr9.left_eq, hr.left_eq]; exact hlt8
end Go.Proofs.Ytlifinlideiloaa
