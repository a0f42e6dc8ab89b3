import Derived.Test.YtndofhcacmghkaaHm
namespace Go.Proofs.Ytndofhcacmghkaa
set_option linter.unusedVariables false
set_option linter.unusedSimpArgs false
open Go.RowKit GF
open Go.Proofs.YtndofhcacmghkaaW.PrintWords

set_option maxRecDepth 100000 in
theorem law_Gf256Polynomials (A0 : Option Addr) (c0 : Nat) (p : List Int) (A1 : Option Addr) (c1 : Nat) (q : List Int) (x parity : Int) (w : World)
    (h0 : IC .u8 w A0 p) (hc0 : p.length ≤ c0) (y0 : p.length * 1 ≤ 140737488351232) (g0 : ∀ x ∈ p, (Lit.int .u8 x).wf = true)
    (h1 : IC .u8 w A1 q) (hc1 : q.length ≤ c1) (y1 : q.length * 1 ≤ 140737488351232) (g1 : ∀ x ∈ q, (Lit.int .u8 x).wf = true) (wx : (Lit.int .u8 x).wf = true) (wp : (Lit.int .i64 parity).wf = true) :
    Calls Try.prog 8 #[.slice A0 p.length c0, .slice A1 q.length c1, .int .u8 x, .int .i64 parity] w fun e w' => e = .returned (.bool true) ∧ Below w.heap.size w w' := by
  have hx := byte_wf wx
  have hp := Lib.hid (inB_wf g0)
  have hq := Lib.hid (inB_wf g1)
  clear wx g0 g1 wp
  by_cases l1 : 40 < p.length
  · go_enter Try.func8, Try.ntmps8
    go_wp2_with (go_at_call 10; refine (awake_any _).mono ?_; rintro e w1 ⟨rfl, hb1⟩)
    go_ret
    exact ⟨rfl, hb1⟩
  by_cases l2 : 40 < q.length
  · go_enter Try.func8, Try.ntmps8
    go_wp2_with (go_at_call 10; refine (awake_any _).mono ?_; rintro e w1 ⟨rfl, hb1⟩)
    go_ret
    exact ⟨rfl, hb1⟩
  go_enter Try.func8, Try.ntmps8
  go_wp2_with fail
  refine (awake_any _).mono ?_
  rintro e w1 ⟨rfl, hb⟩
  have hB := hb
  clear hb
  go_wp2_with fail
  refine (remainder_any _ _ p _ _ q _ (ic_below h0 hB) (ic_below h1 hB) hc1 hq.out (by omega)).mono ?_
  rintro e w2 ⟨v, rfl, hR, hb⟩
  obtain ⟨A2, c2, rfl, hc2, HC2⟩ := ir_reads hR
  clear hR
  replace HC2 := Lib.hid HC2
  replace hB := below_step hB hb
  clear hb
  go_wp2_with fail
  refine (rremainder_any _ _ p _ _ q _ (ic_below h0 hB) (ic_below h1 hB) hc1 hp.out hq.out (by omega)).mono ?_
  rintro e w3 ⟨v, rfl, hR, hb⟩
  obtain ⟨A3, c3, rfl, hc3, HC3⟩ := ir_reads hR
  clear hR
  replace HC2 := Lib.hid (ic_below HC2.out hb)
  replace HC3 := Lib.hid HC3
  replace hB := below_step hB hb
  clear hb
  go_wp2_with fail
  refine (generator_any _ _).mono ?_
  rintro e w4 ⟨v, rfl, hR, hb⟩
  obtain ⟨A4, c4, rfl, hc4, HC4⟩ := ir_reads hR
  clear hR
  replace HC2 := Lib.hid (ic_below HC2.out hb)
  replace HC3 := Lib.hid (ic_below HC3.out hb)
  replace HC4 := Lib.hid HC4
  replace hB := below_step hB hb
  clear hb
  go_wp2_with fail
  refine (rgenerator_any _ _).mono ?_
  rintro e w5 ⟨v, rfl, hR, hb⟩
  obtain ⟨A5, c5, rfl, hc5, HC5⟩ := ir_reads hR
  clear hR
  replace HC2 := Lib.hid (ic_below HC2.out hb)
  replace HC3 := Lib.hid (ic_below HC3.out hb)
  replace HC4 := Lib.hid (ic_below HC4.out hb)
  replace HC5 := Lib.hid HC5
  replace hB := below_step hB hb
  clear hb
  go_wp2_with fail
  refine (eval_any _ _ _ _ hx.1 hx.2 _ (ic_below h0 hB)).mono ?_
  rintro e w6 ⟨rfl, hb⟩
  replace HC2 := Lib.hid (ic_below HC2.out hb)
  replace HC3 := Lib.hid (ic_below HC3.out hb)
  replace HC4 := Lib.hid (ic_below HC4.out hb)
  replace HC5 := Lib.hid (ic_below HC5.out hb)
  replace hB := below_step hB hb
  clear hb
  go_wp2_with fail
  refine (reval_any _ _ _ _ hx _ (ic_below h0 hB)).mono ?_
  rintro e w7 ⟨rfl, hb⟩
  replace HC2 := Lib.hid (ic_below HC2.out hb)
  replace HC3 := Lib.hid (ic_below HC3.out hb)
  replace HC4 := Lib.hid (ic_below HC4.out hb)
  replace HC5 := Lib.hid (ic_below HC5.out hb)
  replace hB := below_step hB hb
  clear hb
  go_wp2_with fail
  refine (product_any _ _ p _ _ q _ (ic_below h0 hB) (ic_below h1 hB) hq.out (by omega)).mono ?_
  rintro e w8 ⟨v, rfl, hR, hb⟩
  obtain ⟨A6, c6, rfl, hc6, HC6⟩ := ir_reads hR
  clear hR
  replace HC2 := Lib.hid (ic_below HC2.out hb)
  replace HC3 := Lib.hid (ic_below HC3.out hb)
  replace HC4 := Lib.hid (ic_below HC4.out hb)
  replace HC5 := Lib.hid (ic_below HC5.out hb)
  replace HC6 := Lib.hid HC6
  replace hB := below_step hB hb
  clear hb
  go_wp2_with fail
  refine (rproduct_any _ _ p _ _ q _ (ic_below h0 hB) (ic_below h1 hB) hp.out hq.out (by omega)).mono ?_
  rintro e w9 ⟨v, rfl, hR, hb⟩
  obtain ⟨A7, c7, rfl, hc7, HC7⟩ := ir_reads hR
  clear hR
  replace HC2 := Lib.hid (ic_below HC2.out hb)
  replace HC3 := Lib.hid (ic_below HC3.out hb)
  replace HC4 := Lib.hid (ic_below HC4.out hb)
  replace HC5 := Lib.hid (ic_below HC5.out hb)
  replace HC6 := Lib.hid (ic_below HC6.out hb)
  replace HC7 := Lib.hid HC7
  replace hB := below_step hB hb
  clear hb
  go_wp2_with fail
  refine (bytes_same _ _ _ _ _ _ HC6.out HC7.out).mono ?_
  rintro e w' ⟨rfl, rfl⟩
  go_wp2_with fail
  refine (bytes_same _ _ _ _ _ _ HC2.out HC3.out).mono ?_
  rintro e w' ⟨rfl, rfl⟩
  go_wp2_with fail
  refine (bytes_same _ _ _ _ _ _ HC4.out HC5.out).mono ?_
  rintro e w' ⟨rfl, rfl⟩
  go_wp2
  go_ret
  exact ⟨rfl, hB⟩
end Go.Proofs.Ytndofhcacmghkaa
