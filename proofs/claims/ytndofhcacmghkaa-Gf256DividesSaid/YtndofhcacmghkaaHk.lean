import Derived.Test.YtndofhcacmghkaaHj
namespace Go.Proofs.Ytndofhcacmghkaa
set_option linter.unusedVariables false
set_option linter.unusedSimpArgs false
open Go.RowKit GF
open Go.Proofs.YtndofhcacmghkaaW.PrintWords

/-- the reference's rows of the division -/
def outQ (q : List Int) (inv : Int) (p : List Int) : Nat → List Int
  | 0 => p
  | i + 1 => inS q (mulS (rd (outQ q inv p i) i) inv) i q.length (outQ q inv p i)
theorem outQ_length (q : List Int) (inv : Int) (p : List Int) (i : Nat) : (outQ q inv p i).length = p.length := by
  induction i with
  | zero => simp [outQ]
  | succ i ih => rw [outQ, inS_length, ih]
theorem outQ_inB {q p : List Int} {inv : Int} (hp : InB p) (i : Nat) : InB (outQ q inv p i) := by
  induction i with
  | zero => exact hp
  | succ i ih => exact inS_inB _ ih

theorem rd_app {z r : List Int} (k : Nat) : rd (z ++ r) ((z.length + k : Nat) : Int) = rd r (k : Int) := by
  simp only [rd, Int.toNat_natCast, List.getD_eq_getElem?_getD]
  rw [List.getElem?_append_right (by omega), show z.length + k - z.length = k by omega]
theorem set_app {z r : List Int} (k : Nat) (x : Int) : (z ++ r).set (z.length + k) x = z ++ r.set k x := by
  rw [List.set_append_right _ _ (by omega), show z.length + k - z.length = k by omega]
theorem inS_app (q : List Int) (f : Int) (z r : List Int) (i k : Nat) : inS q f (z.length + i) k (z ++ r) = z ++ inS q f i k r := by
  induction k with
  | zero => rfl
  | succ k ih => rw [inS, ih, inS, Nat.add_assoc, rd_app, set_app]
theorem xor_zero {a : Int} (h : 0 ≤ a ∧ a ≤ 255) : Go.bits .xor .u8 a 0 = a := by
  obtain ⟨n, rfl, hn⟩ := byte_nat h.1 h.2
  have := xor_nat n 0 hn (by omega)
  rw [Nat.xor_zero] at this
  exact this
theorem mulS_zero_left {b : Int} (h : 0 ≤ b ∧ b ≤ 255) : mulS 0 b = 0 := by
  obtain ⟨n, rfl, hn⟩ := byte_nat h.1 h.2
  have := mulS_nat 0 n (by omega) hn
  rw [zero_gm hn] at this
  exact this
theorem set_same {r : List Int} (i : Nat) : r.set i (rd r (i : Int)) = r := by
  apply List.ext_getElem?
  intro j
  rw [List.getElem?_set]
  by_cases h : i = j
  · subst h
    by_cases hl : i < r.length
    · simp [rd, hl, List.getD_eq_getElem?_getD]
    · simp [hl]
  · rw [if_neg h]
theorem inS_zero {q : List Int} (hq : InB q) (i k : Nat) {r : List Int} (hr : InB r) : inS q 0 i k r = r := by
  induction k with
  | zero => rfl
  | succ k ih => rw [inS, ih, mulS_zero_left (hq.at_ k), xor_zero (hr.at_ (i + k)), set_same]

theorem outR_low {t p : List Int} {inv : Int} (ht : InB t) (hp : InB p) (hi : 0 ≤ inv ∧ inv ≤ 255) (i : Nat) (h : i ≤ t.length - 1) : outR t inv p i = List.replicate (t.length - 1) 0 ++ p := by
  induction i with
  | zero => rfl
  | succ i ih =>
    have hb : InB (List.replicate (t.length - 1) 0 ++ p) := by
      intro x hx
      rcases List.mem_append.1 hx with hx | hx
      · have := List.eq_of_mem_replicate hx; omega
      · exact hp x hx
    have h0 : rd (List.replicate (t.length - 1) 0 ++ p) (i : Int) = 0 := by
      simp only [rd, Int.toNat_natCast, List.getD_eq_getElem?_getD]
      rw [List.getElem?_append_left (by simp; omega), List.getElem?_replicate]
      split <;> rfl
    rw [outR, ih (by omega), h0, mulS_zero_left hi, inS_zero ht _ _ hb]
theorem outR_high {t p : List Int} {inv : Int} (ht : InB t) (hp : InB p) (hi : 0 ≤ inv ∧ inv ≤ 255) (j : Nat) : outR t inv p (t.length - 1 + j) = List.replicate (t.length - 1) 0 ++ outQ t inv p j := by
  induction j with
  | zero => exact outR_low ht hp hi _ (by omega)
  | succ j ih =>
    have hz : (List.replicate (t.length - 1) (0 : Int)).length = t.length - 1 := by simp
    rw [← Nat.add_assoc, outR, ih, outQ]
    have e1 := rd_app (z := List.replicate (t.length - 1) 0) (r := outQ t inv p j) j
    have e2 := inS_app t (mulS (rd (outQ t inv p j) j) inv) (List.replicate (t.length - 1) 0) (outQ t inv p j) j t.length
    rw [hz] at e1 e2
    rw [e1, e2]
/-- what the reference hands back is what the code hands back -/
theorem rem_same {t p : List Int} {inv : Int} (ht : InB t) (hp : InB p) (hi : 0 ≤ inv ∧ inv ≤ 255) (h0 : 0 < t.length) :
    (outR t inv p p.length).drop p.length = List.replicate (t.length - 1 - (p.length - (p.length - (t.length - 1)))) 0 ++ (outQ t inv p (p.length - (t.length - 1))).drop (p.length - (t.length - 1)) := by
  by_cases h : p.length ≤ t.length - 1
  · rw [outR_low ht hp hi _ h, show p.length - (t.length - 1) = 0 by omega, List.drop_zero, outQ, List.drop_append_of_le_length (by simp; omega), List.drop_replicate]
    rfl
  · have e : p.length = t.length - 1 + (p.length - (t.length - 1)) := by omega
    have h2 := outR_high (inv := inv) ht hp hi (p.length - (t.length - 1))
    rw [← e] at h2
    rw [h2]
    have hz : (List.replicate (t.length - 1) (0 : Int)).length = t.length - 1 := by simp
    have : (List.replicate (t.length - 1) (0 : Int) ++ outQ t inv p (p.length - (t.length - 1))).drop p.length = (outQ t inv p (p.length - (t.length - 1))).drop (p.length - (t.length - 1)) := by
      rw [List.drop_append, List.drop_eq_nil_of_le (by rw [hz]; omega), hz, List.nil_append]
    rw [this, show t.length - 1 - (p.length - (p.length - (t.length - 1))) = 0 by omega]
    rfl

set_option maxRecDepth 100000 in
theorem rremainder_any (A0 : Option Addr) (c0 : Nat) (p : List Int) (A1 : Option Addr) (c1 : Nat) (q : List Int) (w : World)
    (hr0 : IC .u8 w A0 p) (hr1 : IC .u8 w A1 q) (hc1 : q.length ≤ c1) (hp : InB p) (hq : InB q) (hl : p.length + q.length ≤ 140737488355328) :
    Calls Try.prog 24 #[.slice A0 p.length c0, .slice A1 q.length c1] w fun e w' =>
      ∃ v, e = .returned (.tuple #[v, .int .i64 (remS p q).2]) ∧ IR .u8 5 w' w.heap.size v (remS p q).1 ∧ Below w.heap.size w w' := by
  have hle := trimS_le q
  have HQ := Lib.hid (trimS_inB hq)
  clear hq
  obtain ⟨t, HT⟩ : ∃ t, Hid (trimS q = t) := ⟨_, Lib.hid rfl⟩
  have htl : t.length ≤ q.length := by rw [← HT.out]; exact hle
  have HQT : Hid (InB t) := Lib.hid (by rw [← HT.out]; exact HQ.out)
  clear hle HQ
  by_cases h0 : t.length = 0
  · have HE : Hid (remS p q = ([], 1)) := Lib.hid (by unfold remS; rw [HT.out, if_pos (List.length_eq_zero_iff.1 h0)])
    have e1 : ((t.length : Int) == 0) = true := by simpa using h0
    clear h0
    go_enter Try.func24, Try.ntmps24
    go_wp2_with (go_at_call 35; refine (rtrim_any _ _ _ _ hr1 hc1).mono ?_; rintro e w1 ⟨A, c, rfl, hrt, hct, hb1⟩; rw [HT.out] at hrt hct ⊢)
    go_ret2
    exact ⟨_, by rw [HE.out]; rfl, by rw [HE.out]; exact ir_nil _ _ _ _, hb1⟩
  have e1 : ((t.length : Int) == 0) = false := by simp; exact fun h => h0 (by rw [h]; rfl)
  have hpos : 0 < t.length := by omega
  have hinv := invR_range (rd t 0)
  have hB0 := HQT.out.at_ 0
  have HE : Hid (remS p q = (List.replicate (t.length - 1 - (p.length - (p.length - (t.length - 1)))) 0 ++ (outQ t (invR (rd t 0)).1 p (p.length - (t.length - 1))).drop (p.length - (t.length - 1)), 0)) :=
    Lib.hid (by unfold remS; rw [HT.out, if_neg (fun h => h0 (by rw [h]; rfl)), rem_same HQT.out hp hinv hpos])
  have HO := Lib.hid (fun i => outQ_inB (q := t) (inv := (invR (rd t 0)).1) hp i)
  clear h0 hp
  go_enter Try.func24, Try.ntmps24
  go_wp2_with fail
  refine (rtrim_any _ _ _ _ hr1 hc1).mono ?_
  rintro e w1 ⟨A, c, rfl, hrt, hct, hb1⟩
  rw [HT.out] at hrt hct ⊢
  replace hrt := hrt hpos
  obtain ⟨ad, rfl, hcell⟩ := ic_cell (ic_below hrt hb1) 0 hpos
  simp only [Addr.add_zero', Int.ofNat_zero] at hcell hB0
  go_wp2_with (first | (go_at_call 12; refine (rinv_any _ hB0 _).mono ?_; rintro e w' ⟨rfl, rfl⟩) |
    (at_builtin; refine ir_append w1.heap.size .u8 1 5 33 info_u8 Try.underlying33 (by decide) rfl _ _ rfl _ [] p _ _ _ rfl rfl rfl (ir_lit w1 w1.heap.size .u8 5 [] (Nat.le_refl _) (by simp)) (ic_below hr0 (hb1.alloc hb1.size _)) ((Below.refl _ w1).alloc (Nat.le_refl _) _) (by simp) (by simp; omega) ?_; intro v3 w3 hR3 hb3 _; obtain ⟨A3, c3, rfl, hc3⟩ := ir_slice hR3 (n := p.length) (by simp); have HR3 := Lib.hid (ir_lower hR3 hb1.size); clear hR3))
  have hR3 := HR3.out
  clear HR3
  simp only [List.nil_append] at hR3
  have hB3 := below_step hb1 hb3
  clear hcell hb3
  go_loopw [8] (fun v wr => ∃ (j : Nat) (A : Option Addr), j ≤ p.length - (t.length - 1) ∧ v = .slice A (p.length - j) (c3 - j) ∧ Hid (j < p.length → ∃ g, A3 = some ⟨g, 0, none⟩ ∧ A = some ⟨g, j, none⟩ ∧ w.heap.size ≤ g) ∧ IR .u8 5 wr w.heap.size (.slice A3 p.length c3) (outQ t (invR (rd t 0)).1 p j) ∧ Below w.heap.size w wr) (fun v _ => match v with | .slice _ n _ => n | _ => 0)
  case atStart => exact ⟨0, A3, by omega, rfl, Lib.hid (fun h => by obtain ⟨g, rfl, hg⟩ := ir_some hR3 h; exact ⟨g, rfl, rfl, hg⟩), hR3, hB3⟩
  clear hR3 hB3
  case round =>
    obtain ⟨j, A, hj, rfl, HA, hR, hB⟩ := hrel
    by_cases hge : t.length ≤ p.length - j
    · obtain ⟨g, rfl, rfl, hg⟩ := HA.out (by omega)
      obtain ⟨hx, hxf⟩ := ir_cell hR j (by omega)
      have HB2 := Lib.hid ((HO.out j).at_ j)
      have hn0 : 0 < p.length - j := by omega
      go_wp2_with (go_at_call 17; refine (rmul_int _ _ HB2.out hinv _).mono ?_; rintro e w' ⟨rfl, rfl⟩)
      obtain ⟨wo, rfl⟩ : ∃ wo : World, wo = wr := ⟨_, rfl⟩
      clear hx hxf
      go_loopw [10] (fun i wr => ∃ (k : Nat), k ≤ t.length ∧ i = .int .i64 k ∧ IR .u8 5 wr w.heap.size (.slice (some ⟨g, 0, none⟩) p.length c3) (inS t (mulS (rd (outQ t (invR (rd t 0)).1 p j) j) (invR (rd t 0)).1) j k (outQ t (invR (rd t 0)).1 p j)) ∧ Below w.heap.size w wr) (fun i _ => t.length - (intOf i).toNat)
      case atStart => exact ⟨0, by omega, rfl, hR, hB⟩
      clear hR hB
      case round =>
        obtain ⟨k, hk, rfl, hR', hB'⟩ := hrel
        by_cases hlk : k < t.length
        · obtain ⟨ad1, he1, hcell1⟩ := ic_cell (ic_below hrt hB') k hlk
          obtain rfl : ad = ad1 := by injection he1
          clear he1
          obtain ⟨hx, hxf⟩ := ir_cell hR' (j + k) (by omega)
          have HBk := Lib.hid (HQT.out.at_ k)
          have HF : Hid (0 ≤ mulS (rd (outQ t (invR (rd t 0)).1 p j) j) (invR (rd t 0)).1 ∧ mulS (rd (outQ t (invR (rd t 0)).1 p j) j) (invR (rd t 0)).1 ≤ 255) := Lib.hid (mulS_range HB2.out hinv)
          have k1 : (k : Int) < t.length := by omega
          have k2 : k < p.length - j := by omega
          have k3 : (k : Int) < ((p.length - j : Nat) : Int) := by omega
          go_wp2
          go_still_tail 13, (by kernel_rfl)
          still_call ((rmul_int _ _ HF.out HBk.out _).mono fun e w' ⟨he, hw⟩ => ⟨he, hw.symm⟩)
          repeat still_step
          refine wpStill_nil ?_
          change wpList _ _ _ _ _ wr.drew
          go_wp2
          go_roundw
          case rel =>
            refine ⟨k + 1, by omega, by go_num, ?_, below_drew (hB'.setCell hg _)⟩
            · exact Kd.R_drew (ir_put hR' (j + k) (Go.bits .xor .u8 (rd (inS t (mulS (rd (outQ t (invR (rd t 0)).1 p j) j) (invR (rd t 0)).1) j k (outQ t (invR (rd t 0)).1 p j)) ((j + k : Nat) : Int)) (mulS (mulS (rd (outQ t (invR (rd t 0)).1 p j) j) (invR (rd t 0)).1) (rd t k))))
          case measure => simp [intOf]; omega
        · obtain rfl : k = t.length := by omega
          obtain ⟨A', hcut, hA'⟩ := cut_one (P := Try.prog) 33 5 .u8 1 info_u8 Try.underlying33 g j p.length c3 (by omega) hc3
          have HA' := Lib.hid hA'
          clear hA'
          go_wp2
          go_roundw
          case rel => exact ⟨j + 1, A', by omega, rfl, Lib.hid (fun h => ⟨g, rfl, HA'.out h, hg⟩), hR', hB'⟩
          case measure => simp; omega
    · have hJ : j = p.length - (t.length - 1) := by omega
      have HJ := Lib.hid hJ
      have HRS := Lib.hid (ir_sub hR (j := j) (A := A) (by omega) (fun h => by obtain ⟨g, h1, h2, _⟩ := HA.out h; exact ⟨g, h1, h2⟩))
      have hol := outQ_length t (invR (rd t 0)).1 p j
      have HOL := Lib.hid hol
      have hjp : j ≤ p.length := by omega
      have hlt2 : p.length - j < t.length := by omega
      clear hJ hR hol hge
      go_wp2_with (first |
        (at_make; refine ir_make w.heap.size .u8 1 5 33 info_u8 Try.underlying33 (by decide) rfl rfl _ _ rfl _ rfl rfl (by omega) (by omega) hB hB.size ?_; intro v4 w4 hR4 hB4 hb4; have HR4 := Lib.hid hR4; clear hR4) |
        (at_builtin; refine ir_append w.heap.size .u8 1 5 33 info_u8 Try.underlying33 (by decide) rfl _ _ rfl _ _ ((outQ t (invR (rd t 0)).1 p j).drop j) _ _ _ rfl rfl (by rw [List.length_drop, HOL.out]) HR4.out (ic_below HRS.out hb4) hB4 hB4.size (by rw [List.length_drop, HOL.out]; simp; omega) ?_; intro v5 w5 hR5 hB5 hb5; have HR5 := Lib.hid hR5; clear hR5 hb5))
      go_ret2
      refine ⟨v5, by rw [HE.out]; rfl, ?_, hB5⟩
      rw [HE.out]
      have h5 := HR5.out
      have e : ((t.length : Int) - 1 - ((p.length - j : Nat) : Int)).toNat = t.length - 1 - (p.length - j) := by omega
      rw [← HJ.out]
      first | exact h5 | (rw [e] at h5; exact h5)
end Go.Proofs.Ytndofhcacmghkaa
