import Derived.Test.YtndofhcacmghkaaQ
namespace Go.Proofs.Ytndofhcacmghkaa
set_option linter.unusedVariables false
set_option linter.unusedSimpArgs false
open Go.RowKit GF
open Go.Proofs.YtndofhcacmghkaaW.PrintWords

theorem tmod_bounds (m : Int) : -100000 < m.tmod 100000 ∧ m.tmod 100000 < 100000 := by
  have h1 := Int.tmod_lt_of_pos m (show (0:Int) < 100000 by omega)
  have h2 := Int.tmod_lt_of_pos (-m) (show (0:Int) < 100000 by omega)
  rw [Int.neg_tmod] at h2
  omega
theorem expS_add (m n : Int) : expS (m + n) = mulS (expS m) (expS n) := by
  rw [expS_up m, expS_up n, mulS_nat _ _ (pwN_lt _) (pwN_lt _), ← pwN_add, ← expS_nat]
  apply expS_mod
  unfold upE
  omega
theorem expS_range (n : Int) : 0 ≤ expS n ∧ expS n ≤ 255 := pw_range _
theorem exp0 : expS 0 = 1 := by decide +kernel
theorem exp1 : expS 1 = 2 := by decide +kernel

set_option maxRecDepth 100000 in
theorem law_Gf256Powers (m n a : Int) (w : World) (wm : (Lit.int .i64 m).wf = true) (wn : (Lit.int .i64 n).wf = true) (wa : (Lit.int .u8 a).wf = true) :
    Calls Try.prog 5 #[.int .i64 m, .int .i64 n, .int .u8 a] w fun e w' => e = .returned (.bool true) ∧ Below w.heap.size w w' := by
  have ha := byte_wf wa
  clear wa wm wn
  have bm := tmod_bounds m
  have bn := tmod_bounds n
  have g1 : (expS (m.tmod 100000 + n.tmod 100000) != mulS (expS (m.tmod 100000)) (expS (n.tmod 100000))) = false := by rw [expS_add]; simp
  have g2 : (expS (m.tmod 100000 + 255) != expS (m.tmod 100000)) = false := by rw [expS_mod (m := m.tmod 100000 + 255) (n := m.tmod 100000) (by omega)]; simp
  have g3 : (expS 0 != 1) = false := by rw [exp0]; rfl
  have g4 : (expS 1 != 2) = false := by rw [exp1]; rfl
  have b1 := expS_range (n.tmod 100000)
  obtain ⟨k, rfl, hk⟩ := byte_nat ha.1 ha.2
  by_cases h0 : k = 0
  · have e0 : ((k : Int) == 0) = true := by simp [h0]
    have HL : Hid (logR k = (0, 1)) := Lib.hid (by rw [h0]; exact logR_zero)
    clear h0
    go_enter Try.func5, Try.ntmps5
    go_wp2_with (first | (go_at_call 10; refine (awake_any _).mono ?_; rintro e w1 ⟨rfl, hb1⟩) |
      (go_at_call 13; refine (log_any _ _).mono ?_; rintro e w2 ⟨rfl, hb2⟩; rw [HL.out]) |
      (go_at_call 16; refine (mul_any _ _ (by omega) (by omega) _).mono ?_; rintro e w' ⟨rfl, rfl⟩) |
      (go_at_call 18; refine (exp_any _ _).mono ?_; rintro e w' ⟨rfl, rfl⟩))
    go_ret
    exact ⟨rfl, below_step hb1 hb2⟩
  · have e0 : ((k : Int) == 0) = false := by simp; omega
    obtain ⟨j, hj, hp, hl⟩ := logR_pos hk h0
    have HL := Lib.hid hl
    have g5 : (expS (j : Int) == (k : Int)) = true := by rw [expS_nat, hp]; simp
    clear h0 hl hp
    go_enter Try.func5, Try.ntmps5
    go_wp2_with (first | (go_at_call 10; refine (awake_any _).mono ?_; rintro e w1 ⟨rfl, hb1⟩) |
      (go_at_call 13; refine (log_any _ _).mono ?_; rintro e w2 ⟨rfl, hb2⟩; rw [HL.out]) |
      (go_at_call 16; refine (mul_any _ _ (by omega) (by omega) _).mono ?_; rintro e w' ⟨rfl, rfl⟩) |
      (go_at_call 18; refine (exp_any _ _).mono ?_; rintro e w' ⟨rfl, rfl⟩))
    go_ret
    exact ⟨rfl, below_step hb1 hb2⟩

set_option maxRecDepth 100000 in
theorem law_Gf256Elements (a b n : Int) (w : World) (wa : (Lit.int .u8 a).wf = true) (wb : (Lit.int .u8 b).wf = true) (wn : (Lit.int .i64 n).wf = true) :
    Calls Try.prog 3 #[.int .u8 a, .int .u8 b, .int .i64 n] w fun e w' => e = .returned (.bool true) ∧ Below w.heap.size w w' := by
  have ha := byte_wf wa
  have hb := byte_wf wb
  clear wa wb wn
  have g : ∀ x : Int, (x == x) = true := fun x => by simp
  go_enter Try.func3, Try.ntmps3
  go_wp2_with (first | (go_at_call 10; refine (awake_any _).mono ?_; rintro e w1 ⟨rfl, hb1⟩) |
      (go_at_call 13; refine (log_any _ _).mono ?_; rintro e w2 ⟨rfl, hb2⟩) |
      (go_at_call 11; refine (inv_any _ _).mono ?_; rintro e w3 ⟨rfl, hb3⟩) |
      (go_at_call 12; refine (rinv_any _ ha _).mono ?_; rintro e w' ⟨rfl, rfl⟩) |
      (go_at_call 14; refine (rlog_any _ _).mono ?_; rintro e w' ⟨rfl, rfl⟩) |
      (go_at_call 17; refine (rmul_int _ _ ha hb _).mono ?_; rintro e w' ⟨rfl, rfl⟩) |
      (go_at_call 19; refine (rexp_any _ _).mono ?_; rintro e w' ⟨rfl, rfl⟩) |
      (go_at_call 16; refine (mul_any _ _ (by omega) (by omega) _).mono ?_; rintro e w' ⟨rfl, rfl⟩) |
      (go_at_call 15; refine (add_any _ _ _).mono ?_; rintro e w' ⟨rfl, rfl⟩) |
      (go_at_call 18; refine (exp_any _ _).mono ?_; rintro e w' ⟨rfl, rfl⟩))
  go_ret
  exact ⟨rfl, below_step (below_step hb1 hb3) hb2⟩

theorem eval_len (A0 : Option Addr) (c0 : Nat) (l : List Int) (m : Nat) (hl : l.length = m) (x : Int) (hx : 0 ≤ x ∧ x ≤ 255) (w : World) (hr : IC .u8 w A0 l) :
    Calls Try.prog 21 #[.slice A0 m c0, .int .u8 x] w fun e w' => e = .returned (.int .u8 (foldE x l 0)) ∧ Below w.heap.size w w' := by
  subst hl; exact eval_any A0 c0 l x hx.1 hx.2 w hr

theorem outP_head {p q : List Int} (hp : 0 < p.length) (hq : 0 < q.length) (h1 : rd p 0 = 1) (h2 : rd q 0 = 1) (hpb : InB p) (hqb : InB q) : rd (prodS p q) 0 = 1 := by
  obtain ⟨p, rfl⟩ := lift hpb
  obtain ⟨q, rfl⟩ := lift hqb
  simp only [List.length_map] at hp hq
  rw [prodS_map p q (List.length_pos_iff.1 hp) (List.length_pos_iff.1 hq)]
  have e1 := rd_map p 0
  have e2 := rd_map q 0
  have e3 := rd_map (outE p q p.length) 0
  simp only [Int.ofNat_zero] at e1 e2 e3
  have f1 : p.getD 0 0 = 1 := toI_inj (by rw [← e1]; exact h1)
  have f2 : q.getD 0 0 = 1 := toI_inj (by rw [← e2]; exact h2)
  have h : ∀ i, i ≤ p.length → 0 < i → (outE p q i).getD 0 0 = 1 := by
    intro i hi h0
    induction i with
    | zero => omega
    | succ i ih =>
      rw [outE, inE_at _ _ _ _ _ _ (by rw [outE_length]; omega)]
      by_cases hz : i = 0
      · subst hz
        rw [if_pos (by omega), f1, Nat.sub_self, f2, mul_on, outE]
        have : (List.replicate (p.length + q.length - 1) (0 : E)).getD 0 0 = 0 := by
          rw [List.getD_eq_getElem?_getD, List.getElem?_replicate]; split <;> rfl
        rw [this, ze_add]
      · rw [if_neg (by omega), add_ze, ih (by omega) (by omega)]
  refine e3.trans ?_
  rw [h p.length (Nat.le_refl _) hp]; rfl
theorem genS_head (n : Nat) : rd (genS n) 0 = 1 := by
  induction n with
  | zero => rfl
  | succ n ih => exact outP_head (by rw [genS_length]; omega) (by simp) ih rfl (genS_inB n) (inB_two n)

set_option maxRecDepth 100000 in
theorem law_Gf256Roots (parity x : Int) (w : World) (wp : (Lit.int .u8 parity).wf = true) (wx : (Lit.int .u8 x).wf = true) :
    Calls Try.prog 6 #[.int .u8 parity, .int .u8 x] w fun e w' => e = .returned (.bool true) ∧ Below w.heap.size w w' := by
  have hp := byte_wf wp
  have hx := byte_wf wx
  clear wp wx
  obtain ⟨n, HN⟩ : ∃ n : Nat, Hid (parity % 33 = n) := ⟨(parity % 33).toNat, Lib.hid (by omega)⟩
  have hn : n < 33 := by have := HN.out; omega
  have HG : Hid (genR n = (genS n, 0)) := Lib.hid (by unfold genR; rw [if_neg (by omega)]; rfl)
  have HGL := Lib.hid (genS_length n)
  have HH := Lib.hid (genS_head n)
  have HR := Lib.hid (genS_root n x hx)
  obtain ⟨m, rfl, hm⟩ := byte_nat hx.1 hx.2
  by_cases h0 : m = 0
  · have H1 : Hid (logR m = (0, 1)) := Lib.hid (by rw [h0]; exact logR_zero)
    have hv : (foldE (m : Int) (genS n) 0 == 0) = false := by
      rw [beq_eq_false_iff_ne]
      intro h
      obtain ⟨i, _, he⟩ := HR.out.1 h
      exact pwN_pos i (by omega)
    clear h0
    go_enter Try.func6, Try.ntmps6
    go_wp2_with fail
    refine (awake_any _).mono ?_
    rintro e w1 ⟨rfl, hb1⟩
    go_wp2_with fail
    rw [HN.out]
    refine (generator_any _ _).mono ?_
    rw [HG.out]
    rintro e w2 ⟨v, rfl, hR, hb2⟩
    obtain ⟨A, c, rfl, hc⟩ := ir_slice hR HGL.out
    obtain ⟨-, -, hC⟩ := ir_ic hR
    obtain ⟨ad, rfl, hcell⟩ := ic_cell hC 0 (by rw [HGL.out]; omega)
    simp only [Int.ofNat_zero, Addr.add_zero'] at hcell
    rw [HH.out] at hcell
    have HC := Lib.hid hC
    clear hC hR
    go_wp2_with (first | (go_at_call 13; refine (log_any _ _).mono ?_; rintro e w3 ⟨rfl, hb3⟩; rw [H1.out]) |
      (go_at_call 21; refine (eval_len _ _ _ _ HGL.out _ hx _ (ic_below HC.out hb3)).mono ?_; rintro e w4 ⟨rfl, hb4⟩))
    go_ret
    exact ⟨rfl, below_step (below_step (below_step hb1 hb2) hb3) hb4⟩
  obtain ⟨k, hk, he, hl⟩ := logR_pos hm h0
  have H1 := Lib.hid hl
  by_cases hkn : k < n
  · have hv : (foldE (m : Int) (genS n) 0 == 0) = true := by
      rw [beq_iff_eq]
      exact HR.out.2 ⟨k, hkn, by rw [he]⟩
    clear h0 hl he
    go_enter Try.func6, Try.ntmps6
    go_wp2_with fail
    refine (awake_any _).mono ?_
    rintro e w1 ⟨rfl, hb1⟩
    go_wp2_with fail
    rw [HN.out]
    refine (generator_any _ _).mono ?_
    rw [HG.out]
    rintro e w2 ⟨v, rfl, hR, hb2⟩
    obtain ⟨A, c, rfl, hc⟩ := ir_slice hR HGL.out
    obtain ⟨-, -, hC⟩ := ir_ic hR
    obtain ⟨ad, rfl, hcell⟩ := ic_cell hC 0 (by rw [HGL.out]; omega)
    simp only [Int.ofNat_zero, Addr.add_zero'] at hcell
    rw [HH.out] at hcell
    have HC := Lib.hid hC
    clear hC hR
    go_wp2_with (first | (go_at_call 13; refine (log_any _ _).mono ?_; rintro e w3 ⟨rfl, hb3⟩; rw [H1.out]) |
      (go_at_call 21; refine (eval_len _ _ _ _ HGL.out _ hx _ (ic_below HC.out hb3)).mono ?_; rintro e w4 ⟨rfl, hb4⟩))
    go_ret
    exact ⟨rfl, below_step (below_step (below_step hb1 hb2) hb3) hb4⟩
  · have hv : (foldE (m : Int) (genS n) 0 == 0) = false := by
      rw [beq_eq_false_iff_ne]
      intro h
      obtain ⟨i, hi, h2⟩ := HR.out.1 h
      have := pwN_inj (i := i) (j := k) (by omega) hk (by omega)
      omega
    clear h0 hl he
    go_enter Try.func6, Try.ntmps6
    go_wp2_with fail
    refine (awake_any _).mono ?_
    rintro e w1 ⟨rfl, hb1⟩
    go_wp2_with fail
    rw [HN.out]
    refine (generator_any _ _).mono ?_
    rw [HG.out]
    rintro e w2 ⟨v, rfl, hR, hb2⟩
    obtain ⟨A, c, rfl, hc⟩ := ir_slice hR HGL.out
    obtain ⟨-, -, hC⟩ := ir_ic hR
    obtain ⟨ad, rfl, hcell⟩ := ic_cell hC 0 (by rw [HGL.out]; omega)
    simp only [Int.ofNat_zero, Addr.add_zero'] at hcell
    rw [HH.out] at hcell
    have HC := Lib.hid hC
    clear hC hR
    go_wp2_with (first | (go_at_call 13; refine (log_any _ _).mono ?_; rintro e w3 ⟨rfl, hb3⟩; rw [H1.out]) |
      (go_at_call 21; refine (eval_len _ _ _ _ HGL.out _ hx _ (ic_below HC.out hb3)).mono ?_; rintro e w4 ⟨rfl, hb4⟩))
    go_ret
    exact ⟨rfl, below_step (below_step (below_step hb1 hb2) hb3) hb4⟩
end Go.Proofs.Ytndofhcacmghkaa
