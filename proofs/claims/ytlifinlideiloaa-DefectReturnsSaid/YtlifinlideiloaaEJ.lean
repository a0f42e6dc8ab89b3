import Derived.Test.YtlifinlideiloaaEG
import Derived.Test.YtlifinlideiloaaEI
/-! DefectReturns, walked. -/
namespace Go.Proofs.Ytlifinlideiloaa
set_option linter.unusedVariables false
set_option linter.unusedSimpArgs false
open Go.RowKit Go.Proofs
open Go.Proofs.YtlifinlideiloaaW.PrintWords

theorem TB.but2 {w w1 : World} {t m g h2 : Nat} {A : Option Addr} {c : Nat} {T : Tab} (h : TB w t m A c T) (hb : But g h2 w w1) (h1 : t ≠ g ∧ t ≠ h2) (k1 : m ≠ g ∧ m ≠ h2) (h3 : ∀ a, A = some a → a.block ≠ g ∧ a.block ≠ h2) : TB w1 t m A c T :=
  ⟨(hb.block t h.lt h1.1 h1.2).trans h.blk, ic_of_block h.row (fun a e => hb.block a.block (h.off a e).2.2 (h3 a e).1 (h3 a e).2), h.cap, fun a e => ⟨(h.off a e).1, (h.off a e).2.1, Nat.lt_of_lt_of_le (h.off a e).2.2 hb.size⟩, h.ne, im_of_block h.map (hb.block m h.map.lt k1.1 k1.2)⟩

theorem rr_slice {base : Nat} {w : World} {v : Value} {l : PL} (h : RR w base v l) {n : Nat} (hn : l.length = n) : ∃ A c, v = .slice A n c ∧ n ≤ c := by
  obtain ⟨A, c, rfl, hc, _⟩ := Kd.R_reads h
  exact ⟨A, c, by rw [hn], by omega⟩

set_option maxRecDepth 100000 in
set_option maxHeartbeats 4000000 in
theorem law_DefectReturns (B S : Int) (A0 : Option Addr) (c0 : Nat) (p : List Int) (A1 : Option Addr) (c1 : Nat) (r : List Int) (nx : Int) (w : World)
    (wB : (Lit.int .i64 B).wf = true) (wS : (Lit.int .i64 S).wf = true)
    (h0 : IC .i64 w A0 p) (hc0 : p.length ≤ c0) (y0 : p.length * 8 ≤ 140737488351232) (g0 : ∀ x ∈ p, (Lit.int .i64 x).wf = true)
    (h1 : IC .i64 w A1 r) (hc1 : r.length ≤ c1) (y1 : r.length * 8 ≤ 140737488351232) (g1 : ∀ x ∈ r, (Lit.int .i64 x).wf = true) (wN : (Lit.int .i64 nx).wf = true) :
    Calls Try.prog 8 #[.int .i64 B, .int .i64 S, .slice A0 p.length c0, .slice A1 r.length c1, .int .i64 nx] w fun e w' => e = .returned (.bool true) ∧ Below w.heap.size w w' := by
  clear wB wS g0 g1 wN
  by_cases l1 : 40 < B
  · go_enter Try.func8, Try.ntmps8
    go_wp2_with (go_at_call 9; refine (awake_any _).mono ?_; rintro e w1 ⟨rfl, hb1⟩)
    go_ret
    exact ⟨rfl, hb1⟩
  by_cases l2 : 20 < p.length
  · go_enter Try.func8, Try.ntmps8
    go_wp2_with (go_at_call 9; refine (awake_any _).mono ?_; rintro e w1 ⟨rfl, hb1⟩)
    go_ret
    exact ⟨rfl, hb1⟩
  by_cases l3 : 80 < r.length
  · go_enter Try.func8, Try.ntmps8
    go_wp2_with (go_at_call 9; refine (awake_any _).mono ?_; rintro e w1 ⟨rfl, hb1⟩)
    go_ret
    exact ⟨rfl, hb1⟩
  go_enter Try.func8, Try.ntmps8
  go_wp2_with fail
  refine (awake_any _).mono ?_
  rintro e w1 ⟨rfl, hB⟩
  go_wp2_with fail
  refine (new_any B S A0 p.length c0 p _ (ic_below h0 hB) rfl).mono ?_
  rintro e w2 (⟨hv, rfl, rfl⟩ | ⟨hv, t, m, A, c, rfl, hT, ht, hm, hb⟩)
  · go_wp2
    go_ret
    exact ⟨rfl, hB⟩
  have hW := Lib.hid (WT.new hv)
  obtain ⟨v1, v2, v3, v4, v5, -⟩ := hv
  obtain ⟨Bn, rfl⟩ : ∃ n : Nat, B = n := ⟨B.toNat, by omega⟩
  obtain ⟨Sn, rfl⟩ : ∃ n : Nat, S = n := ⟨S.toNat, by omega⟩
  simp only [Int.toNat_natCast] at hT hW
  have ht' : w.heap.size ≤ t := Nat.le_trans hB.size ht
  have hm' : w.heap.size ≤ m := Nat.le_trans hB.size hm
  replace hB := below_step hB hb
  clear hb ht hm
  go_wp2
  go_loopw [56] (fun i wr => ∃ (k : Nat) (T : Tab), k ≤ r.length ∧ i = .int .i64 k ∧ TB wr t m A c T ∧ Hid (WT T) ∧ Hid (T.B = Bn ∧ T.S = Sn ∧ T.P = p) ∧ Below w.heap.size w wr) (fun i _ => r.length - (intOf i).toNat)
  case atStart => exact ⟨0, _, by omega, rfl, hT, hW, Lib.hid ⟨rfl, rfl, rfl⟩, hB⟩
  clear hT hW hB
  case round =>
    obtain ⟨k, T, hk, rfl, hT, hW, hE, hB⟩ := hrel
    have e1 := hE.out.1
    have e2 := hE.out.2.1
    have e3 : T.P.length = p.length := by rw [hE.out.2.2]
    have q1 : T.B ≤ 4096 := by omega
    have q2 : T.P.length ≤ 256 := by omega
    have q3 : T.S ≤ 64 := by omega
    have q4 := hW.out.u
    by_cases hlt : k < r.length
    · obtain ⟨ad, rfl, hcell⟩ := ic_cell (ic_below h1 hB) k hlt
      clear e1 e2 e3
      go_wp2_with fail
      refine (repl_any t m A c T _ hT q1 q2 q3 q4 hW.out.val64 (rd r k)).mono ?_
      rintro e w3 ⟨rfl, hT3, hbt⟩
      replace hB := But.below hB hbt hB.size ht' hm'
      clear hT hbt
      go_wp2
      go_roundw
      case rel =>
        refine ⟨k + 1, _, by omega, by go_num, hT3, Lib.hid (hW.out.repl _), Lib.hid ?_, hB⟩
        obtain ⟨x1, x2, x3⟩ := repl_same T (rd r k)
        exact ⟨x1.trans hE.out.1, x2.trans hE.out.2.1, x3.trans hE.out.2.2⟩
      case measure => simp [intOf]; omega
    · obtain rfl : k = r.length := by omega
      clear hlt hk e1 e2 e3
      go_wp2_with fail
      refine (encode_any t m A c T _ hT hW.out).mono ?_
      rintro e w3 ⟨rfl, hb3⟩
      have hT3 := hT.below hb3
      have hB3 := below_step hB hb3
      clear hT hB hb3
      go_wp2_with fail
      refine (decode_any T _ hW.out).mono ?_
      rintro e w4 ⟨t', m', A', c', rfl, hU4, ht4, hm4, hA4, hb4⟩
      have n1 : t ≠ t' ∧ t ≠ m' := by have := hT3.lt; omega
      have n2 : m ≠ t' ∧ m ≠ m' := by have := hT3.map.lt; omega
      have n3 : Hid (∀ a, A = some a → a.block ≠ t' ∧ a.block ≠ m') := Lib.hid (fun a e => by have := (hT3.off a e).2.2; omega)
      have o3 : Hid (∀ a, A' = some a → a.block ≠ t ∧ a.block ≠ m) := Lib.hid (fun a e => by have := hA4 a e; have := hT3.lt; have := hT3.map.lt; omega)
      have o1 : t' ≠ t ∧ t' ≠ m := ⟨Ne.symm n1.1, Ne.symm n2.1⟩
      have o2 : m' ≠ t ∧ m' ≠ m := ⟨Ne.symm n1.2, Ne.symm n2.2⟩
      have ht5 : w.heap.size ≤ t' := Nat.le_trans hB3.size ht4
      have hm5 : w.heap.size ≤ m' := Nat.le_trans hB3.size hm4
      have hT4 := hT3.below hb4
      have hB4 := below_step hB3 hb4
      clear hT3 hB3 hb4 ht4 hm4 hA4
      obtain ⟨X, hX⟩ : ∃ X, replS T nx = X := ⟨_, rfl⟩
      have hW9 : Hid (WT X.1) := Lib.hid (by rw [← hX]; exact hW.out.repl nx)
      have hE9 : Hid (X.1.B = Bn ∧ X.1.S = Sn ∧ X.1.P = p) := Lib.hid (by
        obtain ⟨x1, x2, x3⟩ := repl_same T nx
        rw [hX] at x1 x2 x3
        exact ⟨x1.trans hE.out.1, x2.trans hE.out.2.1, x3.trans hE.out.2.2⟩)
      obtain ⟨T9, rn, re⟩ := X
      simp only at hW9 hE9
      have HRS := Lib.hid hX
      clear hX
      have xr : (rn != rn) = false := by simp
      have xe : (re != re) = false := by simp
      go_wp2_with fail
      refine (repl_any t m A c T _ hT4 q1 q2 q3 q4 hW.out.val64 nx).mono ?_
      rw [HRS.out]
      rintro e w5 ⟨rfl, hT5, hbt5⟩
      have hU5 := hU4.but2 hbt5 o1 o2 o3.out
      have hB5 := But.below hB4 hbt5 hB4.size ht' hm'
      clear hT4 hU4 hB4 hbt5
      go_wp2_with fail
      refine (repl_any t' m' A' c' T _ hU5 q1 q2 q3 q4 hW.out.val64 nx).mono ?_
      rw [HRS.out]
      rintro e w6 ⟨rfl, hU6, hbt6⟩
      have hT6 := hT5.but2 hbt6 n1 n2 n3.out
      have hB6 := But.below hB5 hbt6 hB5.size ht5 hm5
      clear hT5 hU5 hB5 hbt6 n1 n2 n3 o1 o2 o3
      clear hE hW q1 q2 q3 q4 HRS
      have e1 := hE9.out.1
      have e2 := hE9.out.2.1
      have e3 : T9.P.length = p.length := by rw [hE9.out.2.2]
      have q1 : T9.B ≤ 4096 := by omega
      have q2 : T9.P.length ≤ 256 := by omega
      have q3 : T9.S ≤ 64 := by omega
      have q4 := hW9.out.u
      have f1 : T9.B ≤ Bn := by omega
      have f2 : Bn ≤ T9.B := by omega
      clear e1 e2 e3
      have xB : ((T9.B : Int) != T9.B) = false := by simp
      have xS : (((T9.B : Int) + T9.P.length + T9.S) != ((T9.B : Int) + T9.P.length + T9.S)) = false := by simp
      have xF : (((T9.S : Int) - T9.u) != ((T9.S : Int) - T9.u)) = false := by simp
      go_wp2_with fail
      refine (blocks_any t m A c T9 _ hT6).mono ?_
      rintro e w7 ⟨rfl, rfl⟩
      go_wp2_with fail
      refine (blocks_any t' m' A' c' T9 _ hU6).mono ?_
      rintro e w7 ⟨rfl, rfl⟩
      go_wp2_with fail
      refine (sectors_any t m A c T9 _ hT6 q1 q2 q3).mono ?_
      rintro e x7 ⟨rfl, q, rfl⟩
      replace hT6 := hT6.drewN q
      replace hU6 := hU6.drewN q
      replace hB6 := below_drewN hB6 q
      generalize World.drewN _ q = y7 at hT6 hU6 hB6 ⊢
      go_wp2_with fail
      refine (sectors_any t' m' A' c' T9 _ hU6 q1 q2 q3).mono ?_
      rintro e x8 ⟨rfl, q, rfl⟩
      replace hT6 := hT6.drewN q
      replace hU6 := hU6.drewN q
      replace hB6 := below_drewN hB6 q
      generalize World.drewN _ q = y8 at hT6 hU6 hB6 ⊢
      go_wp2_with fail
      refine (free_any t m A c T9 _ hT6 q3 q4).mono ?_
      rintro e x9 ⟨rfl, q, rfl⟩
      replace hT6 := hT6.drewN q
      replace hU6 := hU6.drewN q
      replace hB6 := below_drewN hB6 q
      generalize World.drewN _ q = y9 at hT6 hU6 hB6 ⊢
      go_wp2_with fail
      refine (free_any t' m' A' c' T9 _ hU6 q3 q4).mono ?_
      rintro e x10 ⟨rfl, q, rfl⟩
      replace hT6 := hT6.drewN q
      replace hU6 := hU6.drewN q
      replace hB6 := below_drewN hB6 q
      generalize World.drewN _ q = y10 at hT6 hU6 hB6 ⊢
      obtain ⟨bl, hbl⟩ : ∃ bl, (badS T9).length = bl := ⟨_, rfl⟩
      have HBL := Lib.hid hbl
      clear hbl
      go_wp2_with fail
      refine (bad_any t m A c T9 _ hT6 hW9.out).mono ?_
      rintro e y11 ⟨v11, rfl, hR11, hb⟩
      replace hT6 := hT6.below hb
      replace hU6 := hU6.below hb
      replace hB6 := below_step hB6 hb
      obtain ⟨R11, d11, rfl, hc11⟩ := ir_slice hR11 HBL.out
      have hC11 := (ir_ic hR11).2.2
      clear hR11 hb hc11
      go_wp2_with fail
      refine (bad_any t' m' A' c' T9 _ hU6 hW9.out).mono ?_
      rintro e y12 ⟨v12, rfl, hR12, hb⟩
      replace hT6 := hT6.below hb
      replace hU6 := hU6.below hb
      replace hB6 := below_step hB6 hb
      obtain ⟨R12, d12, rfl, hc12⟩ := ir_slice hR12 HBL.out
      have hC12 := (ir_ic hR12).2.2
      replace hC11 := ic_below hC11 hb
      clear hR12 hb hc12
      go_wp2_with fail
      refine (equal_any R11 R12 bl d11 bl d12 (badS T9) (badS T9) _ hC11 hC12 HBL.out HBL.out).mono ?_
      rw [show (badS T9 == badS T9) = true by simp]
      rintro e xe12 ⟨rfl, q, rfl⟩
      clear hC11 hC12
      replace hT6 := hT6.drewN q
      replace hU6 := hU6.drewN q
      replace hB6 := below_drewN hB6 q
      generalize World.drewN _ q = ye12 at hT6 hU6 hB6 ⊢
      obtain ⟨ml, hml⟩ : ∃ ml, T9.M.length = ml := ⟨_, rfl⟩
      have hml2 : ml ≤ 1000 := by have := hW9.out.len; omega
      have HML := Lib.hid hml
      clear hml
      go_wp2_with fail
      refine (replaced_any t m A c T9 _ hT6 hW9.out).mono ?_
      rintro e y13 ⟨v13, rfl, hR13, hb⟩
      replace hT6 := hT6.below hb
      replace hU6 := hU6.below hb
      replace hB6 := below_step hB6 hb
      obtain ⟨R13, d13, rfl, hc13⟩ := rr_slice hR13 HML.out
      clear hb hc13
      go_wp2_with fail
      refine (replaced_any t' m' A' c' T9 _ hU6 hW9.out).mono ?_
      rintro e y14 ⟨v14, rfl, hR14, hb⟩
      replace hT6 := hT6.below hb
      replace hU6 := hU6.below hb
      replace hB6 := below_step hB6 hb
      obtain ⟨R14, d14, rfl, hc14⟩ := rr_slice hR14 HML.out
      replace hR13 := Kd.R_below hR13 hb
      clear hb hc14
      go_wp2_with fail
      refine (equalR_any R13 R14 ml d13 d14 _ _ T9.M _ hR13 hR14 hml2).mono ?_
      rintro e ye14 ⟨rfl, hb⟩
      clear hR13 hR14
      replace hT6 := hT6.below hb
      replace hU6 := hU6.below hb
      replace hB6 := below_step hB6 hb
      clear hb
      go_wp2_with fail
      refine (primary_any t m A c T9 _ hT6 q2).mono ?_
      rintro e y15 ⟨v15, rfl, hR15, hb⟩
      replace hT6 := hT6.below hb
      replace hU6 := hU6.below hb
      replace hB6 := below_step hB6 hb
      obtain ⟨R15, d15, rfl, hc15⟩ := ir_slice hR15 rfl
      have hC15 := (ir_ic hR15).2.2
      clear hR15 hb hc15
      go_wp2_with fail
      refine (primary_any t' m' A' c' T9 _ hU6 q2).mono ?_
      rintro e y16 ⟨v16, rfl, hR16, hb⟩
      replace hT6 := hT6.below hb
      replace hU6 := hU6.below hb
      replace hB6 := below_step hB6 hb
      obtain ⟨R16, d16, rfl, hc16⟩ := ir_slice hR16 rfl
      have hC16 := (ir_ic hR16).2.2
      replace hC15 := ic_below hC15 hb
      clear hR16 hb hc16
      go_wp2_with fail
      refine (equal_any R15 R16 _ d15 _ d16 T9.P T9.P _ hC15 hC16 rfl rfl).mono ?_
      rw [show (T9.P == T9.P) = true by simp]
      rintro e xe16 ⟨rfl, q, rfl⟩
      clear hC15 hC16
      replace hT6 := hT6.drewN q
      replace hU6 := hU6.drewN q
      replace hB6 := below_drewN hB6 q
      generalize World.drewN _ q = ye16 at hT6 hU6 hB6 ⊢
      go_wp2
      go_loopw [142] (fun i wr => ∃ (j : Nat), j ≤ Bn ∧ i = .int .i64 j ∧ TB wr t m A c T9 ∧ TB wr t' m' A' c' T9 ∧ Below w.heap.size w wr) (fun i _ => Bn - (intOf i).toNat)
      case atStart => exact ⟨0, by omega, rfl, hT6, hU6, hB6⟩
      clear hT6 hU6 hB6
      case round =>
        obtain ⟨j, hj, rfl, hT6, hU6, hB6⟩ := hrel
        by_cases hlj : j < Bn
        · obtain ⟨X, hX⟩ : ∃ X, physS T9 j = X := ⟨_, rfl⟩
          obtain ⟨xs, xe2⟩ := X
          have HX := Lib.hid hX
          have hxs : (xs != xs) = false := by simp
          clear hX
          go_wp2_with fail
          refine (phys_any t m A c T9 _ hT6 q1 q2 hW9.out.val64 j).mono ?_
          rw [HX.out]
          rintro e x1 ⟨rfl, q, rfl⟩
          replace hT6 := hT6.drewN q
          replace hU6 := hU6.drewN q
          replace hB6 := below_drewN hB6 q
          generalize World.drewN _ q = z1 at hT6 hU6 hB6 ⊢
          go_wp2_with fail
          refine (phys_any t' m' A' c' T9 _ hU6 q1 q2 hW9.out.val64 j).mono ?_
          rw [HX.out]
          rintro e x1 ⟨rfl, q, rfl⟩
          replace hT6 := hT6.drewN q
          replace hU6 := hU6.drewN q
          replace hB6 := below_drewN hB6 q
          generalize World.drewN _ q = z2 at hT6 hU6 hB6 ⊢
          go_wp2
          go_roundw
          case rel => exact ⟨j + 1, by omega, by go_num, hT6, hU6, hB6⟩
          case measure => simp [intOf]; omega
        · obtain rfl : j = Bn := by omega
          go_wp2_with fail
          refine (encode_any t m A c T9 _ hT6 hW9.out).mono ?_
          rintro e z1 ⟨rfl, hb⟩
          replace hU6 := hU6.below hb
          replace hB6 := below_step hB6 hb
          clear hT6 hb
          go_wp2_with fail
          refine (encode_any t' m' A' c' T9 _ hU6 hW9.out).mono ?_
          rintro e z2 ⟨rfl, hb⟩
          replace hB6 := below_step hB6 hb
          go_wp2
          go_ret
          exact ⟨by simp, hB6⟩
end Go.Proofs.Ytlifinlideiloaa
