import Derived.Test.YtndofhcacmghkaaHd
namespace Go.Proofs.Ytndofhcacmghkaa
set_option linter.unusedVariables false
set_option linter.unusedSimpArgs false
open Go.RowKit
open Go.Proofs.YtndofhcacmghkaaW.PrintWords

theorem info_u8 : (Try.prog.info? 5).map (fun i => (i.zero, i.size, i.bytes)) = some (some (.int .u8 0), 1, 1) := by kernel_rfl

/-- a polynomial without leading zeros -/
def trimS : List Int → List Int
  | [] => []
  | x :: l => if x = 0 then trimS l else x :: l
theorem trimS_le (l : List Int) : (trimS l).length ≤ l.length := by
  induction l with
  | nil => simp [trimS]
  | cons x l ih => unfold trimS; split <;> simp <;> omega
theorem trimS_inB {l : List Int} (h : InB l) : InB (trimS l) := by
  induction l with
  | nil => exact h
  | cons x l ih =>
    unfold trimS; split
    · exact ih (fun y hy => h y (List.mem_cons_of_mem _ hy))
    · exact h

theorem trim_any (A0 : Option Addr) (c0 : Nat) (p : List Int) (w : World) (hr0 : IC .u8 w A0 p) (hc0 : p.length ≤ c0) :
    Calls Try.prog 34 #[.slice A0 p.length c0] w fun e w' => ∃ A c, e = .returned (.slice A (trimS p).length c) ∧ IC .u8 w A (trimS p) ∧ (trimS p).length ≤ c ∧ w = w' := by
  have hm := ic_max hr0
  go_enter Try.func34, Try.ntmps34
  go_wp2
  go_loop [0] (fun v => ∃ (A : Option Addr) (c : Nat) (l : List Int), v = .slice A l.length c ∧ IC .u8 w A l ∧ l.length ≤ c ∧ Hid (trimS l = trimS p) ∧ l.length ≤ 9223372036854775807) (fun v => match v with | .slice _ n _ => n | _ => 0)
  case atStart => exact ⟨_, _, _, rfl, hr0, hc0, Lib.hid rfl, hm⟩
  case round =>
    obtain ⟨A, c, l, rfl, hr, hc, HT, hm'⟩ := hrel
    cases l with
    | nil =>
      go_wp2
      go_ret
      exact ⟨A, c, by rw [← HT.out]; rfl, by rw [← HT.out]; exact hr, by rw [← HT.out]; exact hc, rfl⟩
    | cons x l =>
      obtain ⟨ad, rfl, hcell⟩ := ic_cell hr 0 (by simp)
      simp only [rd, List.getD_cons_zero, Int.toNat_zero, Addr.add_zero', Int.ofNat_zero] at hcell
      have hl1 : 0 < (x :: l).length := by simp
      have e1 : decide (0 < (x :: l).length) = true := by simp
      by_cases hx : x = 0
      · have hx' : (x == 0) = true := by simpa using hx
        have HX := Lib.hid hx
        clear hx
        have hcut := Kd.C_drop (c := c) (m := 1) hr (by simp) hc
        simp only [Nat.one_mul, show (Kd.int .u8).sz = 1 from rfl, Option.map_some, List.drop_succ_cons, List.drop_zero] at hcut
        have HC := Lib.hid hcut
        clear hcut
        go_wp2
        go_round
        case rel =>
          refine ⟨_, _, l, rfl, HC.out, by simp at hc; omega, Lib.hid ?_, by simp at hm'; omega⟩
          rw [← HT.out, HX.out]; rfl
        case measure => simp
      · have hx' : (x == 0) = false := by simpa using hx
        have HX := Lib.hid hx
        clear hx
        go_wp2
        go_ret
        have e : trimS p = x :: l := by rw [← HT.out, trimS, if_neg HX.out]
        exact ⟨some ad, c, by rw [e]; rfl, by rw [e]; exact hr, by rw [e]; exact hc, rfl⟩

theorem bits_u8_range (op : BinOp) (a b : Int) : 0 ≤ Go.bits op .u8 a b ∧ Go.bits op .u8 a b ≤ 255 := by
  unfold Go.bits
  simp only [IntKind.wrap_u8]
  omega
theorem dbl_range (a : Int) : 0 ≤ dbl a ∧ dbl a ≤ 255 := by
  unfold dbl
  split
  · exact bits_u8_range _ _ _
  · omega
theorem pw_range (k : Nat) : 0 ≤ pw k ∧ pw k ≤ 255 := by
  cases k with
  | zero => simp [pw]
  | succ k => exact dbl_range _
theorem invR_range (a : Int) : 0 ≤ (invR a).1 ∧ (invR a).1 ≤ 255 := by
  unfold invR
  split
  · exact pw_range _
  · simp

/-- the rows of the division: i steps done -/
def outR (q : List Int) (inv : Int) (p : List Int) : Nat → List Int
  | 0 => List.replicate (q.length - 1) 0 ++ p
  | i + 1 => inS q (mulS (rd (outR q inv p i) i) inv) i q.length (outR q inv p i)
theorem outR_length (q : List Int) (inv : Int) (p : List Int) (i : Nat) : (outR q inv p i).length = q.length - 1 + p.length := by
  induction i with
  | zero => simp [outR]
  | succ i ih => rw [outR, inS_length, ih]
def remS (p q : List Int) : List Int × Int := if trimS q = [] then ([], 1) else ((outR (trimS q) (invR (rd (trimS q) 0)).1 p p.length).drop p.length, 0)

set_option maxRecDepth 100000 in
theorem remainder_any (A0 : Option Addr) (c0 : Nat) (p : List Int) (A1 : Option Addr) (c1 : Nat) (q : List Int) (w : World)
    (hr0 : IC .u8 w A0 p) (hr1 : IC .u8 w A1 q) (hc1 : q.length ≤ c1) (hq : InB q) (hl : p.length + q.length ≤ 140737488355328) :
    Calls Try.prog 23 #[.slice A0 p.length c0, .slice A1 q.length c1] w fun e w' =>
      ∃ v, e = .returned (.tuple #[v, .int .i64 (remS p q).2]) ∧ IR .u8 5 w' w.heap.size v (remS p q).1 ∧ Below w.heap.size w w' := by
  have hle := trimS_le q
  have HQ := Lib.hid (trimS_inB hq)
  clear hq
  obtain ⟨t, HT⟩ : ∃ t, Hid (trimS q = t) := ⟨_, Lib.hid rfl⟩
  have htl : t.length ≤ q.length := by rw [← HT.out]; exact hle
  have HQT : Hid (InB t) := Lib.hid (by rw [← HT.out]; exact HQ.out)
  clear hle HQ
  by_cases h0 : t.length = 0
  · have HE : Hid (remS p q = ([], 1)) := Lib.hid (by unfold remS; rw [HT.out, if_pos (List.length_eq_zero_iff.1 h0)])
    have e1 : ((t.length : Int) == 0) = true := by simpa using h0
    clear h0
    go_enter Try.func23, Try.ntmps23
    go_wp2_with (go_at_call 34; refine (trim_any _ _ _ _ hr1 hc1).mono ?_; rintro e w' ⟨A, c, rfl, hrt, hct, rfl⟩; rw [HT.out] at hrt hct ⊢)
    go_ret2
    exact ⟨_, by rw [HE.out]; rfl, by rw [HE.out]; exact ir_nil _ _ _ _, Below.refl _ _⟩
  have e1 : ((t.length : Int) == 0) = false := by simp; exact fun h => h0 (by rw [h]; rfl)
  have hpos : 0 < t.length := by omega
  have HE : Hid (remS p q = ((outR t (invR (rd t 0)).1 p p.length).drop p.length, 0)) := Lib.hid (by unfold remS; rw [HT.out, if_neg (fun h => h0 (by rw [h]; rfl))])
  clear h0
  have hinv := invR_range (rd t 0)
  obtain ⟨m, HM⟩ : ∃ m, Hid (t.length = m + 1) := ⟨t.length - 1, Lib.hid (by omega)⟩
  have hm1 : m + 1 ≤ t.length := by rw [HM.out]; omega
  have hm2 : t.length ≤ m + 1 := by rw [HM.out]; omega
  go_enter Try.func23, Try.ntmps23
  go_wp2_with fail
  refine (trim_any _ _ _ _ hr1 hc1).mono ?_
  rintro e w' ⟨A, c, rfl, hrt, hct, rfl⟩
  rw [HT.out] at hrt hct ⊢
  obtain ⟨ad, rfl, hcell⟩ := ic_cell hrt 0 hpos
  simp only [Addr.add_zero', Int.ofNat_zero] at hcell
  go_wp2_with (first | (go_at_call 11; refine (inv_any _ _).mono ?_; rintro e w1 ⟨rfl, hb1⟩) |
    (at_make; refine ir_make w.heap.size .u8 1 5 33 info_u8 Try.underlying33 (by decide) rfl rfl _ _ rfl _ rfl rfl (by omega) (by omega) hb1 hb1.size ?_; intro v2 w2 hR2 hB2 hb2; have HR2 := Lib.hid hR2; clear hR2) |
    (at_builtin; refine ir_append w.heap.size .u8 1 5 33 info_u8 Try.underlying33 (by decide) rfl _ _ rfl _ _ p _ _ _ rfl rfl rfl HR2.out (ic_below hr0 hB2) hB2 hB2.size (by simp; omega) ?_; intro v3 w3 hR3 hB3 hb3; obtain ⟨A3, c3, rfl, hc3⟩ := ir_slice hR3 (n := m + p.length) (by simp; omega); have HR3 := Lib.hid hR3; clear hR3 hb3))
  have hR3 := HR3.out
  clear HR3 HR2 hb1 hb2 hB2
  rw [show (((t.length : Nat) : Int) - 1).toNat = t.length - 1 by omega] at hR3
  go_loopw [37] (fun i wr => ∃ (k : Nat), k ≤ p.length ∧ i = .int .i64 k ∧ IR .u8 5 wr w.heap.size (.slice A3 (m + p.length) c3) (outR t (invR (rd t 0)).1 p k) ∧ Below w.heap.size w wr) (fun i _ => p.length - (intOf i).toNat)
  case atStart => exact ⟨0, by omega, rfl, hR3, hB3⟩
  clear hR3 hB3
  case round =>
    obtain ⟨k, hk, rfl, hR, hB⟩ := hrel
    by_cases hlt : k < p.length
    · obtain ⟨g, rfl, hg⟩ := ir_some hR (by omega)
      obtain ⟨hx, hxf⟩ := ir_cell hR k (by omega)
      have hkb : (k : Int) < ((m + p.length : Nat) : Int) := by omega
      go_wp2_with (go_at_call 16; refine (mul_any _ _ hinv.1 hinv.2 _).mono ?_; rintro e w' ⟨rfl, rfl⟩)
      obtain ⟨wo, rfl⟩ : ∃ wo : World, wo = wr := ⟨_, rfl⟩
      clear hx hxf
      go_loopw [48] (fun i wr => ∃ (j : Nat), j ≤ t.length ∧ i = .int .i64 j ∧ IR .u8 5 wr w.heap.size (.slice (some ⟨g, 0, none⟩) (m + p.length) c3) (inS t (mulS (rd (outR t (invR (rd t 0)).1 p k) k) (invR (rd t 0)).1) k j (outR t (invR (rd t 0)).1 p k)) ∧ Below w.heap.size w wr) (fun i _ => t.length - (intOf i).toNat)
      case atStart => exact ⟨0, by omega, rfl, hR, hB⟩
      clear hR hB
      case round =>
        obtain ⟨j, hj, rfl, hR', hB'⟩ := hrel
        by_cases hlj : j < t.length
        · obtain ⟨ad1, he1, hcell1⟩ := ic_cell (ic_below hrt hB') j hlj
          obtain rfl : ad = ad1 := by injection he1
          clear he1
          obtain ⟨hx, hxf⟩ := ir_cell hR' (k + j) (by omega)
          have HB := Lib.hid (HQT.out.at_ j)
          go_wp2
          have s1 : IntKind.i64.wrap ((k : Int) + j) = (k : Int) + j := IntWalk.i64_in _ (by omega)
          have s2 : 0 ≤ (k : Int) + j := by omega
          have s3 : ((k : Int) + j).toNat = k + j := by omega
          have s4 : (k : Int) + j < (m : Int) + p.length := by omega
          go_still_tail 11, (by kernel_rfl)
          still_call ((mul_any _ _ HB.out.1 HB.out.2 _).mono fun e w' ⟨he, hw⟩ => ⟨he, hw.symm⟩)
          repeat still_step
          refine wpStill_nil ?_
          change wpList _ _ _ _ _ wr.drew
          clear s1 s2 s3 s4
          go_wp2
          go_roundw
          case rel =>
            refine ⟨j + 1, by omega, by go_num, ?_, below_drew (hB'.setCell hg _)⟩
            exact Kd.R_drew (ir_put hR' (k + j) (Go.bits .xor .u8 (rd (inS t (mulS (rd (outR t (invR (rd t 0)).1 p k) k) (invR (rd t 0)).1) k j (outR t (invR (rd t 0)).1 p k)) ((k + j : Nat) : Int)) (mulS (mulS (rd (outR t (invR (rd t 0)).1 p k) k) (invR (rd t 0)).1) (rd t j))))
          case measure => simp [intOf]; omega
        · obtain rfl : j = t.length := by omega
          go_wp2
          go_roundw
          case rel => exact ⟨k + 1, by omega, by go_num, hR', hB'⟩
          case measure => simp [intOf]; omega
    · obtain rfl : k = p.length := by omega
      obtain ⟨hlen, hcap3, hread3⟩ := ir_ic hR
      obtain ⟨A', c', hcut, hread, hcap⟩ := ic_from' (P := Try.prog) 33 5 .u8 1 info_u8 Try.underlying33 A3 (m + p.length) c3 _ ((m : Int) + p.length - (t.length - 1)) p.length m (by omega) hlen (by omega) hc3
      have HC := Lib.hid (hread wr hread3)
      have HL := Lib.hid hlen
      clear hlen hread hread3 hR
      go_wp2_with (at_builtin; refine ir_append w.heap.size .u8 1 5 33 info_u8 Try.underlying33 (by decide) rfl _ _ rfl _ [] _ _ _ _ rfl rfl (by rw [List.length_drop, HL.out]; omega) (ir_lit wr w.heap.size .u8 5 [] hB.size (by simp)) (ic_below HC.out ((Below.refl _ _).alloc (Nat.le_refl _) _)) (hB.alloc hB.size _) (by have := hB.size; simp; omega) (by rw [List.length_drop, HL.out]; simp; omega) ?_; intro v4 w4 hR4 hB4 hb4; have HR4 := Lib.hid hR4; clear hR4 hb4)
      go_ret2
      exact ⟨v4, by rw [HE.out]; rfl, by rw [HE.out]; exact HR4.out, hB4⟩
end Go.Proofs.Ytndofhcacmghkaa
