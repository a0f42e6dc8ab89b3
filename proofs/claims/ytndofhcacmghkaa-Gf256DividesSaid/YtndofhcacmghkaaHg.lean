import Derived.Test.YtndofhcacmghkaaN
namespace Go.Proofs.Ytndofhcacmghkaa
set_option linter.unusedVariables false
set_option linter.unusedSimpArgs false
open Go.RowKit GF
open Go.Proofs.YtndofhcacmghkaaW.PrintWords

theorem strOf_beq (p : List Int) : ((strOfNums p).toList == (strOfNums p).toList) = true := by simp

theorem bytes_same (A0 : Option Addr) (c0 : Nat) (p : List Int) (A1 : Option Addr) (c1 : Nat) (w : World) (hr0 : IC .u8 w A0 p) (hr1 : IC .u8 w A1 p) :
    Calls Try.prog 27 #[.slice A0 p.length c0, .slice A1 p.length c1] w fun e w' => e = .returned (.bool true) ∧ w = w' := by
  have h1 := ic_string (P := Try.prog) 33 9 5 Try.underlying33 Try.underlying5 Try.underlying9 hr0 p.length c0 rfl
  have h2 := ic_string (P := Try.prog) 33 9 5 Try.underlying33 Try.underlying5 Try.underlying9 hr1 p.length c1 rfl
  have h3 := strOf_beq p
  go_enter Try.func27, Try.ntmps27
  go_wp2
  go_ret
  exact ⟨rfl, rfl⟩

theorem inv2 : invR 2 = (142, 0) := by
  obtain ⟨b, hb, h1, h2⟩ := invR_pos (a := 2) (by omega) (by omega)
  have : ∀ b, b < 256 → gm 2 b = 1 → b = 142 := by decide +kernel
  rw [this b hb h1] at h2
  exact h2
theorem gen2 : genS 2 = [1, 3, 2] := by decide +kernel
theorem mul29 : mulS 2 128 = 29 := by
  have := mulS_nat 2 128 (by omega) (by omega)
  have h : gm 2 128 = 29 := by decide +kernel
  rw [h] at this; exact this
theorem add6 : Go.bits .xor .u8 5 3 = 6 := by decide +kernel

theorem awake_any (w : World) : Calls Try.prog 10 #[] w fun e w' => e = .returned (.bool true) ∧ Below w.heap.size w w' := by
  have HI := Lib.hid inv2
  have HG : Hid (genR 2 = ([1, 3, 2], 0)) := Lib.hid (by unfold genR; rw [if_neg (by omega)]; show (genS 2, 0) = _; rw [gen2])
  have HM := Lib.hid mul29
  have HA := Lib.hid add6
  go_enter Try.func10, Try.ntmps10
  go_wp2_with (first | (go_at_call 11; refine (inv_any _ _).mono ?_; rintro e w1 ⟨rfl, hb1⟩; rw [HI.out]) |
    (go_at_call 20; refine (generator_any _ _).mono ?_; rw [HG.out]; rintro e w2 ⟨v, rfl, hR, hb2⟩; obtain ⟨A2, c2, rfl, hc2, hC2⟩ := ir_reads hR; have HC2 := Lib.hid hC2; clear hR hC2) |
    (go_at_call 16; refine (mul_any _ _ (by omega) (by omega) _).mono ?_; rintro e w' ⟨rfl, rfl⟩; rw [HM.out]) |
    (go_at_call 15; refine (add_any _ _ _).mono ?_; rintro e w' ⟨rfl, rfl⟩; rw [HA.out]) |
    (go_at_call 27; refine (bytes_same _ _ [1, 3, 2] _ _ _ (ic_below HC2.out ((Below.refl _ _).alloc (Nat.le_refl _) _)) (ir_ic (ir_lit w2 w2.heap.size .u8 5 [1, 3, 2] (Nat.le_refl _) (by simp))).2.2).mono ?_; rintro e w' ⟨rfl, rfl⟩))
  go_ret
  exact ⟨rfl, (below_step hb1 hb2).alloc (Nat.le_trans hb1.size hb2.size) _⟩

theorem mulS_range {a b : Int} (ha : 0 ≤ a ∧ a ≤ 255) (hb : 0 ≤ b ∧ b ≤ 255) : 0 ≤ mulS a b ∧ mulS a b ≤ 255 := by
  obtain ⟨m, rfl, hm⟩ := byte_nat ha.1 ha.2
  obtain ⟨n, rfl, hn⟩ := byte_nat hb.1 hb.2
  rw [mulS_nat m n hm hn]
  have := gm_lt (b := n) hm
  omega
theorem byte_wf {a : Int} (h : (Lit.int .u8 a).wf = true) : 0 ≤ a ∧ a ≤ 255 := by
  simpa [Lit.wf, IntKind.min, IntKind.max, IntKind.signed, IntKind.bits] using h

theorem field_facts (a b c : Int) (ha : 0 ≤ a ∧ a ≤ 255) (hb : 0 ≤ b ∧ b ≤ 255) (hc : 0 ≤ c ∧ c ≤ 255) :
    mulS a (mulS b c) = mulS (mulS a b) c ∧ mulS a b = mulS b a ∧ mulS a (Go.bits .xor .u8 b c) = Go.bits .xor .u8 (mulS a b) (mulS a c) ∧ mulS a 1 = a ∧ mulS a 0 = 0 := by
  obtain ⟨m, rfl, hm⟩ := byte_nat ha.1 ha.2
  obtain ⟨n, rfl, hn⟩ := byte_nat hb.1 hb.2
  obtain ⟨l, rfl, hl⟩ := byte_nat hc.1 hc.2
  have hmn := gm_lt (b := n) hm
  have hml := gm_lt (b := l) hm
  have hnl := gm_lt (b := l) hn
  refine ⟨?_, ?_, ?_, ?_, ?_⟩
  · rw [mulS_nat n l hn hl, mulS_nat m n hm hn, mulS_nat _ _ hm hnl, mulS_nat _ _ hmn hl, gm_assoc hm hn hl]
  · rw [mulS_nat m n hm hn, mulS_nat n m hn hm, gm_comm hm hn]
  · rw [xor_nat _ _ hn hl, mulS_nat m n hm hn, mulS_nat m l hm hl, mulS_nat _ _ hm (xor_lt hn hl), xor_nat _ _ hmn hml, gm_xor_right]
  · have := mulS_nat m 1 hm (by omega); rw [gm_one hm] at this; exact this
  · have := mulS_nat m 0 hm (by omega); rw [gm_zero] at this; exact this

theorem law_Gf256Field (a b c : Int) (w : World) (wa : (Lit.int .u8 a).wf = true) (wb : (Lit.int .u8 b).wf = true) (wc : (Lit.int .u8 c).wf = true) :
    Calls Try.prog 4 #[.int .u8 a, .int .u8 b, .int .u8 c] w fun e w' => e = .returned (.bool true) ∧ Below w.heap.size w w' := by
  have ha := byte_wf wa
  have hb := byte_wf wb
  have hc := byte_wf wc
  clear wa wb wc
  obtain ⟨f1, f2, f3, f4, f5⟩ := field_facts a b c ha hb hc
  have hbc := mulS_range hb hc
  have hab := mulS_range ha hb
  have hac := mulS_range ha hc
  have hx := bits_u8_range .xor b c
  have g1 : (mulS a (mulS b c) != mulS (mulS a b) c) = false := by simp [f1]
  have g2 : (mulS a b != mulS b a) = false := by simp [f2]
  have g3 : (mulS a (Go.bits .xor .u8 b c) != Go.bits .xor .u8 (mulS a b) (mulS a c)) = false := by simp [f3]
  have g4 : (mulS a 1 != a) = false := by simp [f4]
  have g5 : (mulS a 0 != 0) = false := by simp [f5]
  clear f1 f2 f3 f4 f5
  by_cases h0 : a = 0
  · have e0 : (a == 0) = true := by simpa using h0
    have HI : Hid (invR a = (0, 1)) := Lib.hid (by rw [h0]; exact invR_zero)
    clear h0
    go_enter Try.func4, Try.ntmps4
    go_wp2_with (first | (go_at_call 10; refine (awake_any _).mono ?_; rintro e w1 ⟨rfl, hb1⟩) |
      (go_at_call 11; refine (inv_any _ _).mono ?_; rintro e w2 ⟨rfl, hb2⟩; rw [HI.out]) |
      (go_at_call 16; refine (mul_any _ _ (by omega) (by omega) _).mono ?_; rintro e w' ⟨rfl, rfl⟩) |
      (go_at_call 15; refine (add_any _ _ _).mono ?_; rintro e w' ⟨rfl, rfl⟩))
    go_ret
    exact ⟨rfl, below_step hb1 hb2⟩
  · have e0 : (a == 0) = false := by simpa using h0
    obtain ⟨y, HI, HY, hy⟩ : ∃ y : Int, Hid (invR a = (y, 0)) ∧ Hid ((mulS a y == 1) = true) ∧ (0 ≤ y ∧ y ≤ 255) := by
      obtain ⟨m, rfl, hm⟩ := byte_nat ha.1 ha.2
      obtain ⟨n, hn, h1, h2⟩ := invR_pos (a := m) hm (by omega)
      exact ⟨n, Lib.hid h2, Lib.hid (by rw [mulS_nat m n hm hn, h1]; rfl), by omega⟩
    clear h0
    have g6 := HY.out
    go_enter Try.func4, Try.ntmps4
    go_wp2_with (first | (go_at_call 10; refine (awake_any _).mono ?_; rintro e w1 ⟨rfl, hb1⟩) |
      (go_at_call 11; refine (inv_any _ _).mono ?_; rintro e w2 ⟨rfl, hb2⟩; rw [HI.out]) |
      (go_at_call 16; refine (mul_any _ _ (by omega) (by omega) _).mono ?_; rintro e w' ⟨rfl, rfl⟩) |
      (go_at_call 15; refine (add_any _ _ _).mono ?_; rintro e w' ⟨rfl, rfl⟩))
    go_ret
    exact ⟨rfl, below_step hb1 hb2⟩
end Go.Proofs.Ytndofhcacmghkaa
