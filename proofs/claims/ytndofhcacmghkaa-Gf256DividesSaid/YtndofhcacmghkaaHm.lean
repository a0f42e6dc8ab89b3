import Derived.Test.YtndofhcacmghkaaHl
namespace Go.Proofs.Ytndofhcacmghkaa
set_option linter.unusedVariables false
set_option linter.unusedSimpArgs false
open Go.RowKit GF
open Go.Proofs.YtndofhcacmghkaaW.PrintWords

set_option maxRecDepth 100000 in
theorem rgenerator_any (n : Int) (w : World) :
    Calls Try.prog 25 #[.int .i64 n] w fun e w' =>
      ∃ v, e = .returned (.tuple #[v, .int .i64 (genR n).2]) ∧ IR .u8 5 w' w.heap.size v (genR n).1 ∧ Below w.heap.size w w' := by
  by_cases h1 : n < 0
  · have HE : Hid (genR n = ([], 2)) := Lib.hid (by unfold genR; rw [if_pos (.inl h1)])
    go_enter Try.func25, Try.ntmps25
    go_wp2
    go_ret2
    exact ⟨_, by rw [HE.out]; rfl, by rw [HE.out]; exact ir_nil _ _ _ _, Below.refl _ _⟩
  by_cases h2 : 32 < n
  · have HE : Hid (genR n = ([], 2)) := Lib.hid (by unfold genR; rw [if_pos (.inr h2)])
    go_enter Try.func25, Try.ntmps25
    go_wp2
    go_ret2
    exact ⟨_, by rw [HE.out]; rfl, by rw [HE.out]; exact ir_nil _ _ _ _, Below.refl _ _⟩
  obtain ⟨m, rfl⟩ := Int.eq_ofNat_of_zero_le (show 0 ≤ n by omega)
  have HE : Hid (genR m = (genS m, 0)) := Lib.hid (by unfold genR; rw [if_neg (by omega)]; rfl)
  have hm : m ≤ 32 := by omega
  clear h1 h2
  go_enter Try.func25, Try.ntmps25
  go_wp2
  go_loopw [4, 5] (fun v i wr => ∃ (k : Nat), k ≤ m ∧ i = .int .i64 k ∧ IR .u8 5 wr w.heap.size v (genS k) ∧ Below w.heap.size w wr) (fun _ i _ => m - (intOf i).toNat)
  case atStart => exact ⟨0, by omega, rfl, ir_lit w w.heap.size .u8 5 [1] (Nat.le_refl _) (by simp), (Below.refl _ _).alloc (Nat.le_refl _) _⟩
  case round =>
    obtain ⟨k, hk, rfl, hR, hB⟩ := hrel
    by_cases hlt : k < m
    · obtain ⟨A, c, rfl, hc, hC⟩ := ir_reads hR
      clear hR
      have hl := genS_length k
      have HC := Lib.hid hC
      have HL := Lib.hid hl
      have HB := Lib.hid (genS_inB k)
      have hll : (genS k).length ≤ 33 := by omega
      clear hC hl
      go_wp2_with (first | (go_at_call 19; refine (rexp_any _ _).mono ?_; rintro e w' ⟨rfl, rfl⟩) |
        (go_at_call 28; refine (rproduct_any _ _ (genS k) _ _ [1, expS k] _ (ic_below HC.out ((Below.refl _ _).alloc (Nat.le_refl _) _)) (ir_ic (ir_lit wr wr.heap.size .u8 5 [1, expS k] (Nat.le_refl _) (by simp))).2.2 HB.out (inB_two _) (by simp; omega)).mono ?_; rintro e w2 ⟨v2, rfl, hR2, hB2⟩))
      go_roundw
      case rel =>
        have hB3 := (hB.alloc hB.size (.cells (nums .u8 [1, expS k]).toArray 5)).trans (hB2.mono (by have := hB.size; simp; omega))
        exact ⟨k + 1, by omega, by go_num, ir_lower hR2 (by have := hB.size; simp; omega), hB3⟩
      case measure => simp [intOf]; omega
    · obtain rfl : k = m := by omega
      go_wp2
      go_ret2
      exact ⟨_, by rw [HE.out]; rfl, by rw [HE.out]; exact hR, hB⟩

theorem inB_wf {l : List Int} (h : ∀ x ∈ l, (Lit.int .u8 x).wf = true) : InB l := fun x hx => byte_wf (h x hx)

/-- the answers that the laws compare, under one roof: bytes_same with the lengths as they stand -/
theorem bytes_len (A0 : Option Addr) (c0 n0 : Nat) (p : List Int) (A1 : Option Addr) (c1 n1 : Nat) (w : World) (h0 : p.length = n0) (h1 : p.length = n1) (hr0 : IC .u8 w A0 p) (hr1 : IC .u8 w A1 p) :
    Calls Try.prog 27 #[.slice A0 n0 c0, .slice A1 n1 c1] w fun e w' => e = .returned (.bool true) ∧ w = w' := by
  subst h0 h1; exact bytes_same A0 c0 p A1 c1 w hr0 hr1

set_option maxRecDepth 100000 in
theorem law_Gf256Values (A0 : Option Addr) (c0 : Nat) (p : List Int) (A1 : Option Addr) (c1 : Nat) (q : List Int) (x : Int) (w : World)
    (h0 : IC .u8 w A0 p) (hc0 : p.length ≤ c0) (y0 : p.length * 1 ≤ 140737488351232) (g0 : ∀ x ∈ p, (Lit.int .u8 x).wf = true)
    (h1 : IC .u8 w A1 q) (hc1 : q.length ≤ c1) (y1 : q.length * 1 ≤ 140737488351232) (g1 : ∀ x ∈ q, (Lit.int .u8 x).wf = true) (wx : (Lit.int .u8 x).wf = true) :
    Calls Try.prog 9 #[.slice A0 p.length c0, .slice A1 q.length c1, .int .u8 x] w fun e w' => e = .returned (.bool true) ∧ Below w.heap.size w w' := by
  have hx := byte_wf wx
  have hp := Lib.hid (inB_wf g0)
  have hq := Lib.hid (inB_wf g1)
  clear wx g0 g1
  by_cases l1 : 40 < p.length
  · go_enter Try.func9, Try.ntmps9
    go_wp2_with (go_at_call 10; refine (awake_any _).mono ?_; rintro e w1 ⟨rfl, hb1⟩)
    go_ret
    exact ⟨rfl, hb1⟩
  by_cases l2 : 40 < q.length
  · go_enter Try.func9, Try.ntmps9
    go_wp2_with (go_at_call 10; refine (awake_any _).mono ?_; rintro e w1 ⟨rfl, hb1⟩)
    go_ret
    exact ⟨rfl, hb1⟩
  have rp := foldE_range x hx p 0 (by omega)
  have rq := foldE_range x hx q 0 (by omega)
  have e1 : (foldE x (prodS p q) 0 != mulS (foldE x p 0) (foldE x q 0)) = false := by rw [ev_prodS hp.out hq.out hx]; simp
  rcases remS_two p q with hr | ⟨hr, hn⟩
  · obtain ⟨r, HR⟩ : ∃ r, Hid (remS p q = (r, 0)) := ⟨(remS p q).1, Lib.hid (by rw [← hr])⟩
    by_cases hv : foldE x q 0 = 0
    · have ev0 : (foldE x q 0 != 0) = false := by simp [hv]
      have e2 : (foldE x r 0 == foldE x p 0) = true := by
        have := ev_remS hp.out hq.out hx hr hv
        rw [HR.out] at this
        rw [this]; simp
      clear hr hv
      go_enter Try.func9, Try.ntmps9
      go_wp2_with fail
      refine (awake_any _).mono ?_
      rintro e w1 ⟨rfl, hb1⟩
      go_wp2_with fail
      refine (product_any _ _ p _ _ q _ (ic_below h0 hb1) (ic_below h1 hb1) hq.out (by omega)).mono ?_
      rintro e w2 ⟨v2, rfl, hR2, hb2⟩
      obtain ⟨A2, c2, rfl, hc2, hC2⟩ := ir_reads hR2
      replace hb2 := below_step hb1 hb2
      clear hb1 hR2
      go_wp2_with fail
      refine (eval_any _ _ _ _ hx.1 hx.2 _ hC2).mono ?_
      rintro e w3 ⟨rfl, hb3⟩
      replace hb3 := below_step hb2 hb3
      clear hb2 hC2
      go_wp2_with fail
      refine (eval_any _ _ _ _ hx.1 hx.2 _ (ic_below h0 hb3)).mono ?_
      rintro e w4 ⟨rfl, hb4⟩
      replace hb4 := below_step hb3 hb4
      clear hb3
      go_wp2_with fail
      refine (eval_any _ _ _ _ hx.1 hx.2 _ (ic_below h1 hb4)).mono ?_
      rintro e w5 ⟨rfl, hb5⟩
      replace hb5 := below_step hb4 hb5
      clear hb4
      go_wp2_with fail
      refine (mul_any _ _ rq.1 rq.2 _).mono ?_
      rintro e w' ⟨rfl, rfl⟩
      go_wp2_with fail
      refine (remainder_any _ _ p _ _ q _ (ic_below h0 hb5) (ic_below h1 hb5) hc1 hq.out (by omega)).mono ?_
      rw [HR.out]
      rintro e w6 ⟨v6, rfl, hR6, hb6⟩
      obtain ⟨A6, c6, rfl, hc6, hC6⟩ := ir_reads hR6
      have HC6 := Lib.hid hC6
      replace hb6 := below_step hb5 hb6
      clear hb5 hR6 hC6
      go_wp2_with fail
      refine (eval_any _ _ _ _ hx.1 hx.2 _ (ic_below h1 hb6)).mono ?_
      rintro e w7 ⟨rfl, hb7⟩
      replace HC6 := Lib.hid (ic_below HC6.out hb7)
      replace hb7 := below_step hb6 hb7
      clear hb6
      go_wp2_with fail
      refine (eval_any _ _ _ _ hx.1 hx.2 _ HC6.out).mono ?_
      rintro e w8 ⟨rfl, hb8⟩
      replace hb8 := below_step hb7 hb8
      clear hb7
      go_wp2_with fail
      refine (eval_any _ _ _ _ hx.1 hx.2 _ (ic_below h0 hb8)).mono ?_
      rintro e w9 ⟨rfl, hb9⟩
      replace hb9 := below_step hb8 hb9
      clear hb8
      go_wp2
      go_ret
      exact ⟨rfl, hb9⟩
    · have ev0 : (foldE x q 0 != 0) = true := by simpa using hv
      clear hr hv
      go_enter Try.func9, Try.ntmps9
      go_wp2_with fail
      refine (awake_any _).mono ?_
      rintro e w1 ⟨rfl, hb1⟩
      go_wp2_with fail
      refine (product_any _ _ p _ _ q _ (ic_below h0 hb1) (ic_below h1 hb1) hq.out (by omega)).mono ?_
      rintro e w2 ⟨v2, rfl, hR2, hb2⟩
      obtain ⟨A2, c2, rfl, hc2, hC2⟩ := ir_reads hR2
      replace hb2 := below_step hb1 hb2
      clear hb1 hR2
      go_wp2_with fail
      refine (eval_any _ _ _ _ hx.1 hx.2 _ hC2).mono ?_
      rintro e w3 ⟨rfl, hb3⟩
      replace hb3 := below_step hb2 hb3
      clear hb2 hC2
      go_wp2_with fail
      refine (eval_any _ _ _ _ hx.1 hx.2 _ (ic_below h0 hb3)).mono ?_
      rintro e w4 ⟨rfl, hb4⟩
      replace hb4 := below_step hb3 hb4
      clear hb3
      go_wp2_with fail
      refine (eval_any _ _ _ _ hx.1 hx.2 _ (ic_below h1 hb4)).mono ?_
      rintro e w5 ⟨rfl, hb5⟩
      replace hb5 := below_step hb4 hb5
      clear hb4
      go_wp2_with fail
      refine (mul_any _ _ rq.1 rq.2 _).mono ?_
      rintro e w' ⟨rfl, rfl⟩
      go_wp2_with fail
      refine (remainder_any _ _ p _ _ q _ (ic_below h0 hb5) (ic_below h1 hb5) hc1 hq.out (by omega)).mono ?_
      rw [HR.out]
      rintro e w6 ⟨v6, rfl, hR6, hb6⟩
      obtain ⟨A6, c6, rfl, hc6, hC6⟩ := ir_reads hR6
      have HC6 := Lib.hid hC6
      replace hb6 := below_step hb5 hb6
      clear hb5 hR6 hC6
      go_wp2_with fail
      refine (eval_any _ _ _ _ hx.1 hx.2 _ (ic_below h1 hb6)).mono ?_
      rintro e w7 ⟨rfl, hb7⟩
      replace hb7 := below_step hb6 hb7
      clear hb6
      go_wp2
      go_ret
      exact ⟨rfl, hb7⟩
  · have HR : Hid (remS p q = ([], 1)) := Lib.hid (by rw [← hr, ← hn])
    clear hr hn
    go_enter Try.func9, Try.ntmps9
    go_wp2_with fail
    refine (awake_any _).mono ?_
    rintro e w1 ⟨rfl, hb1⟩
    go_wp2_with fail
    refine (product_any _ _ p _ _ q _ (ic_below h0 hb1) (ic_below h1 hb1) hq.out (by omega)).mono ?_
    rintro e w2 ⟨v2, rfl, hR2, hb2⟩
    obtain ⟨A2, c2, rfl, hc2, hC2⟩ := ir_reads hR2
    replace hb2 := below_step hb1 hb2
    clear hb1 hR2
    go_wp2_with fail
    refine (eval_any _ _ _ _ hx.1 hx.2 _ hC2).mono ?_
    rintro e w3 ⟨rfl, hb3⟩
    replace hb3 := below_step hb2 hb3
    clear hb2 hC2
    go_wp2_with fail
    refine (eval_any _ _ _ _ hx.1 hx.2 _ (ic_below h0 hb3)).mono ?_
    rintro e w4 ⟨rfl, hb4⟩
    replace hb4 := below_step hb3 hb4
    clear hb3
    go_wp2_with fail
    refine (eval_any _ _ _ _ hx.1 hx.2 _ (ic_below h1 hb4)).mono ?_
    rintro e w5 ⟨rfl, hb5⟩
    replace hb5 := below_step hb4 hb5
    clear hb4
    go_wp2_with fail
    refine (mul_any _ _ rq.1 rq.2 _).mono ?_
    rintro e w' ⟨rfl, rfl⟩
    go_wp2_with fail
    refine (remainder_any _ _ p _ _ q _ (ic_below h0 hb5) (ic_below h1 hb5) hc1 hq.out (by omega)).mono ?_
    rw [HR.out]
    rintro e w6 ⟨v6, rfl, hR6, hb6⟩
    obtain ⟨A6, c6, rfl, hc6, hC6⟩ := ir_reads hR6
    have HC6 := Lib.hid hC6
    replace hb6 := below_step hb5 hb6
    clear hb5 hR6 hC6
    go_wp2
    go_ret
    exact ⟨rfl, hb6⟩
end Go.Proofs.Ytndofhcacmghkaa
