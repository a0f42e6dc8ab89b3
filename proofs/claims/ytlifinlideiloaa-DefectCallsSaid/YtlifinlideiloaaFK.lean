import Derived.Test.YtlifinlideiloaaFJ
/-! DefectCalls, walked. -/
namespace Go.Proofs.Ytlifinlideiloaa
set_option linter.unusedVariables false
set_option linter.unusedSimpArgs false
open Go.RowKit Go.Proofs
open Go.Proofs.YtlifinlideiloaaW.PrintWords

theorem MRow.of_block {w w' : World} {Am : Option Addr} {l : PL} (h : MRow w Am l) (hb : ∀ a, Am = some a → a.block < w.heap.size → w'.heap[a.block]? = w.heap[a.block]?) : MRow w' Am l := fun j hj => by
  obtain ⟨g, e, hlt, c0, c1⟩ := h j hj
  have hg := hb _ e hlt
  simp only at hg
  have hlt' : g < w'.heap.size := by
    have h1 : w.heap[g]? = some w.heap[g] := Array.getElem?_eq_getElem hlt
    rw [h1] at hg
    exact (Array.getElem?_eq_some_iff.1 hg).1
  have hc : ∀ o, w'.cell? ⟨g, o, none⟩ = w.cell? ⟨g, o, none⟩ := fun o => by simp [World.cell?, hg]
  exact ⟨g, e, hlt', (hc _).trans c0, (hc _).trans c1⟩
theorem TB.away {w w1 : World} {t m g : Nat} {A : Option Addr} {c : Nat} {T : Tab} (h : TB w t m A c T) (hs : w.heap.size ≤ w1.heap.size) (hb : ∀ k, k < w.heap.size → k ≠ g → w1.heap[k]? = w.heap[k]?) (h1 : t ≠ g) (h2 : m ≠ g) (h3 : ∀ a, A = some a → a.block ≠ g) : TB w1 t m A c T :=
  ⟨(hb t h.lt h1).trans h.blk, ic_of_block h.row (fun a e => hb a.block (h.off a e).2.2 (h3 a e)), h.cap, fun a e => ⟨(h.off a e).1, (h.off a e).2.1, Nat.lt_of_lt_of_le (h.off a e).2.2 hs⟩, h.ne, im_of_block h.map (hb m h.map.lt h2)⟩

set_option maxRecDepth 100000 in
set_option maxHeartbeats 4000000 in
theorem law_DefectCalls (B S : Int) (A0 : Option Addr) (c0 : Nat) (p : List Int) (A1 : Option Addr) (c1 : Nat) (r : List Int) (w : World)
    (wB : (Lit.int .i64 B).wf = true) (wS : (Lit.int .i64 S).wf = true)
    (h0 : IC .i64 w A0 p) (hc0 : p.length ≤ c0) (y0 : p.length * 8 ≤ 140737488351232) (g0 : ∀ x ∈ p, (Lit.int .i64 x).wf = true)
    (h1 : IC .i64 w A1 r) (hc1 : r.length ≤ c1) (y1 : r.length * 8 ≤ 140737488351232) (g1 : ∀ x ∈ r, (Lit.int .i64 x).wf = true) :
    Calls Try.prog 7 #[.int .i64 B, .int .i64 S, .slice A0 p.length c0, .slice A1 r.length c1] w fun e w' => e = .returned (.bool true) ∧ Below w.heap.size w w' := by
  clear wB wS g0 g1
  by_cases b1 : 40 < B
  · by_cases b2 : B ≤ 4096
    · go_enter Try.func7, Try.ntmps7
      go_wp2_with (go_at_call 9; refine (awake_any _).mono ?_; rintro e w1 ⟨rfl, hb1⟩)
      go_ret
      exact ⟨rfl, hb1⟩
    · have d2 : decide (B ≤ 4096) = false := by simpa using b2
      have hv : ¬ Valid B S p := fun hv => by have := hv.2.1; omega
      by_cases p1 : 20 < p.length
      · by_cases p2 : p.length ≤ 256
        · go_enter Try.func7, Try.ntmps7
          go_wp2_with (go_at_call 9; refine (awake_any _).mono ?_; rintro e w1 ⟨rfl, hb1⟩)
          go_ret
          exact ⟨rfl, hb1⟩
        · have d3 : decide ((p.length : Int) ≤ 256) = false := by simp; omega
          by_cases l3 : 80 < r.length
          · go_enter Try.func7, Try.ntmps7
            go_wp2_with (go_at_call 9; refine (awake_any _).mono ?_; rintro e w1 ⟨rfl, hb1⟩)
            go_ret
            exact ⟨rfl, hb1⟩
          go_enter Try.func7, Try.ntmps7
          go_wp2_with fail
          refine (awake_any _).mono ?_
          rintro e w1 ⟨rfl, hB⟩
          go_wp2_with fail
          refine (new_any2 B S A0 p.length c0 p _ (ic_below h0 hB) rfl).mono ?_
          rintro e w2 (⟨-, rfl, rfl⟩ | ⟨hv2, -⟩)
          · go_wp2_with fail
            refine (rnew_any B S A0 p.length c0 p _ (ic_below h0 hB) rfl hc0).mono ?_
            rintro e w3 (⟨-, rfl, hb3⟩ | ⟨hv2, -⟩)
            · have hz := zero_T
              have hs := heap_alloc_new w3 (.cells zeroT 42)
              have hB3 := below_step hB hb3
              have hbR := below_setRow (hB3.alloc hB3.size (.cells zeroT 42)) hB3.size zeroT
              clear hb3 hB3
              go_wp2_with (refine wpList_store_row rfl 42 _ _ rfl w3.heap.size _ rfl rfl 42 zeroT hs (by kernel_rfl) rfl zeroT_one ?_)
              go_ret
              exact ⟨rfl, hbR⟩
            · exact absurd hv2 hv
          · exact absurd hv2 hv
      · by_cases l3 : 80 < r.length
        · go_enter Try.func7, Try.ntmps7
          go_wp2_with (go_at_call 9; refine (awake_any _).mono ?_; rintro e w1 ⟨rfl, hb1⟩)
          go_ret
          exact ⟨rfl, hb1⟩
        go_enter Try.func7, Try.ntmps7
        go_wp2_with fail
        refine (awake_any _).mono ?_
        rintro e w1 ⟨rfl, hB⟩
        go_wp2_with fail
        refine (new_any2 B S A0 p.length c0 p _ (ic_below h0 hB) rfl).mono ?_
        rintro e w2 (⟨-, rfl, rfl⟩ | ⟨hv2, -⟩)
        · go_wp2_with fail
          refine (rnew_any B S A0 p.length c0 p _ (ic_below h0 hB) rfl hc0).mono ?_
          rintro e w3 (⟨-, rfl, hb3⟩ | ⟨hv2, -⟩)
          · have hz := zero_T
            have hs := heap_alloc_new w3 (.cells zeroT 42)
            have hB3 := below_step hB hb3
            have hbR := below_setRow (hB3.alloc hB3.size (.cells zeroT 42)) hB3.size zeroT
            clear hb3 hB3
            go_wp2_with (refine wpList_store_row rfl 42 _ _ rfl w3.heap.size _ rfl rfl 42 zeroT hs (by kernel_rfl) rfl zeroT_one ?_)
            go_ret
            exact ⟨rfl, hbR⟩
          · exact absurd hv2 hv
        · exact absurd hv2 hv
  by_cases p1 : 20 < p.length
  · by_cases p2 : p.length ≤ 256
    · go_enter Try.func7, Try.ntmps7
      go_wp2_with (go_at_call 9; refine (awake_any _).mono ?_; rintro e w1 ⟨rfl, hb1⟩)
      go_ret
      exact ⟨rfl, hb1⟩
    · have d3 : decide ((p.length : Int) ≤ 256) = false := by simp; omega
      have hv : ¬ Valid B S p := fun hv => by have := hv.2.2.2.2.1; omega
      by_cases l3 : 80 < r.length
      · go_enter Try.func7, Try.ntmps7
        go_wp2_with (go_at_call 9; refine (awake_any _).mono ?_; rintro e w1 ⟨rfl, hb1⟩)
        go_ret
        exact ⟨rfl, hb1⟩
      go_enter Try.func7, Try.ntmps7
      go_wp2_with fail
      refine (awake_any _).mono ?_
      rintro e w1 ⟨rfl, hB⟩
      go_wp2_with fail
      refine (new_any2 B S A0 p.length c0 p _ (ic_below h0 hB) rfl).mono ?_
      rintro e w2 (⟨-, rfl, rfl⟩ | ⟨hv2, -⟩)
      · go_wp2_with fail
        refine (rnew_any B S A0 p.length c0 p _ (ic_below h0 hB) rfl hc0).mono ?_
        rintro e w3 (⟨-, rfl, hb3⟩ | ⟨hv2, -⟩)
        · have hz := zero_T
          have hs := heap_alloc_new w3 (.cells zeroT 42)
          have hB3 := below_step hB hb3
          have hbR := below_setRow (hB3.alloc hB3.size (.cells zeroT 42)) hB3.size zeroT
          clear hb3 hB3
          go_wp2_with (refine wpList_store_row rfl 42 _ _ rfl w3.heap.size _ rfl rfl 42 zeroT hs (by kernel_rfl) rfl zeroT_one ?_)
          go_ret
          exact ⟨rfl, hbR⟩
        · exact absurd hv2 hv
      · exact absurd hv2 hv
  by_cases l3 : 80 < r.length
  · go_enter Try.func7, Try.ntmps7
    go_wp2_with (go_at_call 9; refine (awake_any _).mono ?_; rintro e w1 ⟨rfl, hb1⟩)
    go_ret
    exact ⟨rfl, hb1⟩
  go_enter Try.func7, Try.ntmps7
  go_wp2_with fail
  refine (awake_any _).mono ?_
  rintro e w1 ⟨rfl, hB⟩
  go_wp2_with fail
  refine (new_any2 B S A0 p.length c0 p _ (ic_below h0 hB) rfl).mono ?_
  rintro e w2 (⟨hv, rfl, rfl⟩ | ⟨hv, t, m, A, c, rfl, hT, ht, hm, hA, hb⟩)
  · go_wp2_with fail
    refine (rnew_any B S A0 p.length c0 p _ (ic_below h0 hB) rfl hc0).mono ?_
    rintro e w3 (⟨-, rfl, hb3⟩ | ⟨hv2, -⟩)
    · have hz := zero_T
      have hs := heap_alloc_new w3 (.cells zeroT 42)
      have hB3 := below_step hB hb3
      have hbR := below_setRow (hB3.alloc hB3.size (.cells zeroT 42)) hB3.size zeroT
      clear hb3 hB3
      go_wp2_with (refine wpList_store_row rfl 42 _ _ rfl w3.heap.size _ rfl rfl 42 zeroT hs (by kernel_rfl) rfl zeroT_one ?_)
      go_ret
      exact ⟨rfl, hbR⟩
    · exact absurd hv2 hv
  have hW := Lib.hid (WT.new hv)
  have HV := Lib.hid hv
  obtain ⟨v1, v2, v3, v4, v5, -⟩ := hv
  obtain ⟨Bn, rfl⟩ : ∃ n : Nat, B = n := ⟨B.toNat, by omega⟩
  obtain ⟨Sn, rfl⟩ : ∃ n : Nat, S = n := ⟨S.toNat, by omega⟩
  simp only [Int.toNat_natCast] at hT hW
  have ht' : w.heap.size ≤ t := Nat.le_trans hB.size ht
  have hm' : w.heap.size ≤ m := Nat.le_trans hB.size hm
  have hpw := ic_below (ic_below h0 hB) hb
  replace hB := below_step hB hb
  clear hb ht hm hA
  go_wp2_with fail
  refine (rnew_any Bn Sn A0 p.length c0 p _ hpw rfl hc0).mono ?_
  rintro e w3 (⟨hv2, -, -⟩ | ⟨-, Ap, cp, rfl, hP3, hcp, hA3, hb3⟩)
  · exact absurd HV.out hv2
  have tlt := hT.lt
  have mlt := hT.map.lt
  have tA := Lib.hid (fun a e => (hT.off a e).2.2)
  have hT3 := hT.below hb3
  have hB3 := below_step hB hb3
  have hsz3 := hb3.size
  obtain ⟨g, hg⟩ : ∃ g, w3.heap.size = g := ⟨_, rfl⟩
  have HA3 : Hid (∀ a, Ap = some a → a.block ≠ t ∧ a.block ≠ m ∧ a.block ≠ g ∧ a.block < g) := Lib.hid (fun a e => by
    have h1 := hA3 a e
    omega)
  have hgt : t ≠ g := by omega
  have hgm : m ≠ g := by omega
  have hgA : Hid (∀ a, A = some a → a.block ≠ g) := Lib.hid (fun a e => by have := tA.out a e; omega)
  have hgw : w.heap.size ≤ g := by have := hB3.size; omega
  have hz := zero_T
  have hs : (w3.alloc (.cells zeroT 42)).heap[g]? = some (.cells zeroT 42 (0, 0)) := by rw [← hg]; exact heap_alloc_new w3 (.cells zeroT 42)
  have hb4 : Below w3.heap.size w3 ((w3.alloc (.cells zeroT 42)).setRow g #[.int .i64 Bn, .int .i64 Sn, .int .i64 0, .slice Ap p.length cp, .slice none 0 0]) := below_setRow ((Below.refl _ _).alloc (Nat.le_refl _) _) (Nat.le_of_eq hg) _
  have hR4 : RB ((w3.alloc (.cells zeroT 42)).setRow g #[.int .i64 Bn, .int .i64 Sn, .int .i64 0, .slice Ap p.length cp, .slice none 0 0]) g ⟨Bn, Sn, 0, p, []⟩ Ap cp none 0 := setRow_heap _ _ _ _ _ _ hs
  have hT4 := hT3.below hb4
  have hP4 := ic_below hP3 hb4
  have hB4 := below_step hB3 hb4
  clear hT hb3 hT3 hP3 hb4 hB3 hpw hB HV tlt mlt tA hA3
  go_wp2_with (refine wpList_store_row rfl 42 _ _ rfl g _ rfl rfl 42 zeroT hs (by kernel_rfl) rfl (by kernel_rfl) ?_)
  generalize (w3.alloc (.cells zeroT 42)).setRow g #[.int .i64 Bn, .int .i64 Sn, .int .i64 0, .slice Ap p.length cp, .slice none 0 0] = w4 at hR4 hT4 hP4 hB4 ⊢
  clear hs hsz3
  go_loopw [71] (fun i wr => ∃ (k : Nat) (T : Tab) (Am : Option Addr) (cm : Nat), k ≤ r.length ∧ i = .int .i64 k ∧ TB wr t m A c T ∧ RB wr g T Ap cp Am cm ∧ IC .i64 wr Ap T.P ∧ MRow wr Am T.M ∧ Hid (WT T) ∧ Hid (T.P = p) ∧ Hid (∀ a, Am = some a → a.block ≠ t ∧ a.block ≠ m ∧ a.block ≠ g) ∧ Below w.heap.size w wr) (fun i _ => r.length - (intOf i).toNat)
  case atStart => exact ⟨0, _, _, _, by omega, rfl, hT4, hR4, hP4, MRow.nil _ _, hW, Lib.hid rfl, Lib.hid (fun a e => by simp at e), hB4⟩
  clear hT4 hR4 hP4 hB4 hW
  case round =>
    obtain ⟨k, T, Am, cm, hk, rfl, hT, hR, hP, hM, hW, hE, hAm, hB⟩ := hrel
    have q1 := hW.out.B
    have q2 := hW.out.P
    have q3 := hW.out.S
    have q4 := hW.out.u
    have hcp' : T.P.length ≤ cp := by rw [hE.out]; exact hcp
    by_cases hlt : k < r.length
    · obtain ⟨ad, rfl, hcell⟩ := ic_cell (ic_below h1 hB) k hlt
      obtain ⟨b, hb⟩ : ∃ b, rd r k = b := ⟨_, rfl⟩
      rw [hb] at hcell
      clear hb
      obtain ⟨X, hX⟩ : ∃ X, replS T b = X := ⟨_, rfl⟩
      have hW9 : Hid (WT X.1) := Lib.hid (by rw [← hX]; exact hW.out.repl b)
      have hPP : X.1.P = T.P := by
        obtain ⟨x1, x2, x3⟩ := repl_same T b
        rw [hX] at x3
        exact x3
      obtain ⟨T9, rn, re⟩ := X
      simp only at hW9 hPP
      have HPP := Lib.hid hPP
      have HRS := Lib.hid hX
      have xr : (rn != rn) = false := by simp
      have xe : (re != re) = false := by simp
      have hglt := hR.lt
      clear hX hPP
      go_wp2_with fail
      refine (repl_any t m A c T _ hT q1 q2 q3 q4 hW.out.val64 b).mono ?_
      rw [HRS.out]
      rintro e y1 ⟨rfl, hT1, hbt⟩
      have hR1 : RB y1 g T Ap cp Am cm := (hbt.block g hglt (Ne.symm hgt) (Ne.symm hgm)).trans hR
      have hP1 : IC .i64 y1 Ap T9.P := by
        rw [HPP.out]
        refine ic_of_block hP (fun a e => hbt.block a.block ?_ (HA3.out a e).1 (HA3.out a e).2.1)
        have := (HA3.out a e).2.2.2
        omega
      have hM1 : MRow y1 Am T.M := hM.of_block (fun a e hl => hbt.block a.block hl (hAm.out a e).1 (hAm.out a e).2.1)
      have hB1 := But.below hB hbt hB.size ht' hm'
      have hy1 := hbt.size
      clear hT hR hP hM hB hbt
      obtain ⟨d0, d1, d2, d3, d4⟩ := hR1.cells
      go_wp2_with fail
      refine (rrepl_any T Ap cp Am cm _ hW.out hM1 b).mono ?_
      rw [HRS.out]
      rintro e y2 ⟨Am', cm', rfl, hM2, hA2, hb2⟩
      replace hM2 : MRow y2 Am' T9.M := hM2
      have hT2 : TB y2 t m A c T9 := TB.below hT1 hb2
      have hR2 := hR1.below hb2
      have hP2 := ic_below hP1 hb2
      have hB2 := below_step hB1 hb2
      have HA2 : Hid (∀ a, Am' = some a → a.block ≠ t ∧ a.block ≠ m ∧ a.block ≠ g) := Lib.hid (fun a e => by
        rcases hA2 a e with e' | h'
        · exact hAm.out a e'
        · have h3 := hT1.lt
          have h4 := hT1.map.lt
          omega)
      clear d0 d1 d2 d3 d4 hT1 hR1 hP1 hM1 hB1 hb2 hA2 hAm
      obtain ⟨g2, hg2⟩ : ∃ g2, y2.heap.size = g2 := ⟨_, rfl⟩
      have hs2 : (y2.alloc (.cells zeroT 42)).heap[g2]? = some (.cells zeroT 42 (0, 0)) := by rw [← hg2]; exact heap_alloc_new y2 (.cells zeroT 42)
      have hb3 : Below y2.heap.size y2 ((y2.alloc (.cells zeroT 42)).setRow g2 #[.int .i64 T9.B, .int .i64 T9.S, .int .i64 T9.u, .slice Ap T9.P.length cp, .slice Am' T9.M.length cm']) := below_setRow ((Below.refl _ _).alloc (Nat.le_refl _) _) (Nat.le_of_eq hg2) _
      have hRB : RB ((y2.alloc (.cells zeroT 42)).setRow g2 #[.int .i64 T9.B, .int .i64 T9.S, .int .i64 T9.u, .slice Ap T9.P.length cp, .slice Am' T9.M.length cm']) g2 T9 Ap cp Am' cm' := setRow_heap _ _ _ _ _ _ hs2
      have hT3 := hT2.below hb3
      have h11 := hR2.below hb3
      have hP3 := ic_below hP2 hb3
      have hM3 := hM2.below hb3
      have hB3 := below_step hB2 hb3
      obtain ⟨e0, e1, e2, e3, e4⟩ := hRB.cells
      unfold RB at h11
      have hoth : ∀ k, k ≠ g → (((y2.alloc (.cells zeroT 42)).setRow g2 #[.int .i64 T9.B, .int .i64 T9.S, .int .i64 T9.u, .slice Ap T9.P.length cp, .slice Am' T9.M.length cm']).setRow g #[.int .i64 T9.B, .int .i64 T9.S, .int .i64 T9.u, .slice Ap T9.P.length cp, .slice Am' T9.M.length cm']).heap[k]? = ((y2.alloc (.cells zeroT 42)).setRow g2 #[.int .i64 T9.B, .int .i64 T9.S, .int .i64 T9.u, .slice Ap T9.P.length cp, .slice Am' T9.M.length cm']).heap[k]? := fun k hk => setRow_other _ _ _ _ hk
      have hszz : (((y2.alloc (.cells zeroT 42)).setRow g2 #[.int .i64 T9.B, .int .i64 T9.S, .int .i64 T9.u, .slice Ap T9.P.length cp, .slice Am' T9.M.length cm']).setRow g #[.int .i64 T9.B, .int .i64 T9.S, .int .i64 T9.u, .slice Ap T9.P.length cp, .slice Am' T9.M.length cm']).heap.size = ((y2.alloc (.cells zeroT 42)).setRow g2 #[.int .i64 T9.B, .int .i64 T9.S, .int .i64 T9.u, .slice Ap T9.P.length cp, .slice Am' T9.M.length cm']).heap.size := by simp
      have hT4 := hT3.away (Nat.le_of_eq hszz.symm) (fun k _ hk => hoth k hk) hgt hgm hgA.out
      have hR4 : RB (((y2.alloc (.cells zeroT 42)).setRow g2 #[.int .i64 T9.B, .int .i64 T9.S, .int .i64 T9.u, .slice Ap T9.P.length cp, .slice Am' T9.M.length cm']).setRow g #[.int .i64 T9.B, .int .i64 T9.S, .int .i64 T9.u, .slice Ap T9.P.length cp, .slice Am' T9.M.length cm']) g T9 Ap cp Am' cm' := setRow_heap _ _ _ _ _ _ h11
      have hP4 := ic_of_block hP3 (fun a e => hoth a.block (HA3.out a e).2.2.1)
      have hM4 := hM3.of_block (fun a e _ => hoth a.block (HA2.out a e).2.2)
      have hB4 := below_setRow hB3 hgw #[.int .i64 T9.B, .int .i64 T9.S, .int .i64 T9.u, .slice Ap T9.P.length cp, .slice Am' T9.M.length cm']
      have HR4 := Lib.hid hR4
      clear hb3 hRB hT3 hP3 hM3 hB3 hoth hszz hT2 hR2 hP2 hM2 hB2 hR4
      go_wp2_with (first | (refine wpList_store_row rfl 42 _ _ rfl g2 _ rfl rfl 42 zeroT hs2 (by kernel_rfl) rfl (by kernel_rfl) ?_) | (refine wpList_store_row rfl 42 _ _ rfl g _ rfl rfl 42 _ h11 (by kernel_rfl) rfl (by kernel_rfl) ?_))
      go_roundw
      case rel => exact ⟨k + 1, T9, Am', cm', by omega, by go_num, hT4, HR4.out, hP4, hM4, hW9, Lib.hid (HPP.out.trans hE.out), HA2, hB4⟩
      case measure => simp [intOf]; omega
    · obtain rfl : k = r.length := by omega
      obtain ⟨d0, d1, d2, d3, d4⟩ := hR.cells
      go_wp2_with fail
      refine (same_any t m A c T Ap cp Am cm _ hT hW.out hP hcp' hM).mono ?_
      rintro e y1 ⟨rfl, hb1⟩
      have hB1 := below_step hB hb1
      go_wp2
      go_ret
      exact ⟨rfl, hB1⟩
end Go.Proofs.Ytlifinlideiloaa
