import Derived.Test.YtndofhcacmghkaaHi
namespace Go.Proofs.Ytndofhcacmghkaa
set_option linter.unusedVariables false
set_option linter.unusedSimpArgs false
open Go.RowKit GF
open Go.Proofs.YtndofhcacmghkaaW.PrintWords

theorem foldE_range (x : Int) (hx : 0 ≤ x ∧ x ≤ 255) (l : List Int) (s : Int) (hs : 0 ≤ s ∧ s ≤ 255) : 0 ≤ foldE x l s ∧ foldE x l s ≤ 255 := by
  induction l generalizing s with
  | nil => exact hs
  | cons c l ih => exact ih _ (bits_u8_range _ _ _)

theorem rmul_int (a b : Int) (ha : 0 ≤ a ∧ a ≤ 255) (hb : 0 ≤ b ∧ b ≤ 255) (w : World) :
    Calls Try.prog 17 #[.int .u8 a, .int .u8 b] w fun e w' => e = .returned (.int .u8 (mulS a b)) ∧ w = w' := by
  obtain ⟨m, rfl, hm⟩ := byte_nat ha.1 ha.2
  obtain ⟨n, rfl, hn⟩ := byte_nat hb.1 hb.2
  rw [mulS_nat m n hm hn]
  exact rmul_nat m n hm hn w

theorem reval_any (A0 : Option Addr) (c0 : Nat) (l : List Int) (x : Int) (hx : 0 ≤ x ∧ x ≤ 255) (w : World) (hr : IC .u8 w A0 l) :
    Calls Try.prog 26 #[.slice A0 l.length c0, .int .u8 x] w fun e w' => e = .returned (.int .u8 (foldE x l 0)) ∧ Below w.heap.size w w' := by
  have hm := ic_max hr
  go_enter Try.func26, Try.ntmps26
  go_wp2
  go_loopw [5, 6] (fun a i wr => ∃ k : Nat, k ≤ l.length ∧ i = .int .i64 k ∧ a = .int .u8 (foldE x (l.take k) 0) ∧ Below w.heap.size w wr) (fun _ i _ => l.length - (intOf i).toNat)
  case atStart => exact ⟨0, by omega, rfl, rfl, Below.refl _ _⟩
  case round =>
    obtain ⟨k, hk, rfl, rfl, hB⟩ := hrel
    by_cases hlt : k < l.length
    · obtain ⟨ad, rfl, hcell⟩ := ic_cell (ic_below hr hB) k hlt
      have HS := Lib.hid (foldE_at x l 0 k hlt)
      have HF := Lib.hid (foldE_range x hx (l.take k) 0 (by omega))
      go_wp2
      go_still_tail 8, (by kernel_rfl)
      still_call ((rmul_int _ _ HF.out hx _).mono fun e w' ⟨he, hw⟩ => ⟨he, hw.symm⟩)
      repeat still_step
      refine wpStill_nil ?_
      change wpList _ _ _ _ _ wr.drew
      go_wp2
      go_roundw
      case rel => exact ⟨k + 1, by omega, by go_num, by rw [HS.out] <;> rfl, below_drew hB⟩
      case measure => simp [intOf]; omega
    · obtain rfl : k = l.length := by omega
      go_wp2
      go_ret
      exact ⟨by rw [List.take_length] <;> rfl, hB⟩

theorem trimS_drop (p : List Int) (i : Nat) (h : i < p.length) (h0 : rd p i = 0) : trimS (p.drop i) = trimS (p.drop (i + 1)) := by
  rw [List.drop_eq_getElem_cons h, trimS, if_pos]
  simpa [rd, List.getD_eq_getElem?_getD, List.getElem?_eq_getElem h] using h0
theorem trimS_stop (p : List Int) (i : Nat) (h : i < p.length) (h0 : ¬ rd p i = 0) : trimS (p.drop i) = p.drop i := by
  rw [List.drop_eq_getElem_cons h, trimS, if_neg]
  simpa [rd, List.getD_eq_getElem?_getD, List.getElem?_eq_getElem h] using h0

theorem rtrim_any (A0 : Option Addr) (c0 : Nat) (p : List Int) (w : World) (hr0 : IC .u8 w A0 p) (hc0 : p.length ≤ c0) :
    Calls Try.prog 35 #[.slice A0 p.length c0] w fun e w' => ∃ A c, e = .returned (.slice A (trimS p).length c) ∧ (0 < (trimS p).length → IC .u8 w A (trimS p)) ∧ (trimS p).length ≤ c ∧ Below w.heap.size w w' := by
  have hm := ic_max hr0
  go_enter Try.func35, Try.ntmps35
  go_wp2
  go_loop [3] (fun i => ∃ k : Nat, k ≤ p.length ∧ i = .int .i64 k ∧ Hid (trimS p = trimS (p.drop k))) (fun i => p.length - (intOf i).toNat)
  case atStart => exact ⟨0, by omega, rfl, Lib.hid rfl⟩
  case round =>
    obtain ⟨k, hk, rfl, HT⟩ := hrel
    by_cases hlt : k < p.length
    · obtain ⟨ad, rfl, hcell⟩ := ic_cell hr0 k hlt
      by_cases h0 : rd p k = 0
      · have e0 : (rd p (k : Int) != 0) = false := by simpa using h0
        have H0 := Lib.hid h0
        clear h0
        go_wp2
        go_round
        case rel => exact ⟨k + 1, by omega, by go_num, Lib.hid (HT.out.trans (trimS_drop p k hlt H0.out))⟩
        case measure => simp [intOf]; omega
      · have e0 : (rd p (k : Int) != 0) = true := by simpa using h0
        have HS := Lib.hid (HT.out.trans (trimS_stop p k hlt h0))
        clear h0
        obtain ⟨A', c', hcut, hread, hcap⟩ := ic_from' (P := Try.prog) 33 5 .u8 1 info_u8 Try.underlying33 (some ad) p.length c0 p (k : Int) k (p.length - k) rfl rfl (by omega) hc0
        have HR := Lib.hid hread
        clear hread
        go_wp2
        go_ret
        exact ⟨A', c', by rw [HS.out, List.length_drop] <;> rfl, fun _ => by rw [HS.out]; exact HR.out w hr0, by rw [HS.out, List.length_drop]; exact hcap, Below.refl _ _⟩
    · obtain rfl : k = p.length := by omega
      have HS : Hid (trimS p = []) := Lib.hid (by rw [HT.out, List.drop_length]; rfl)
      go_wp2
      go_ret
      exact ⟨_, _, by rw [HS.out] <;> rfl, fun h => by rw [HS.out] at h; simp at h, by rw [HS.out]; exact Nat.le_refl 0, (Below.refl _ _).alloc (Nat.le_refl _) _⟩

set_option maxRecDepth 100000 in
theorem rproduct_any (A0 : Option Addr) (c0 : Nat) (p : List Int) (A1 : Option Addr) (c1 : Nat) (q : List Int) (w : World)
    (hr0 : IC .u8 w A0 p) (hr1 : IC .u8 w A1 q) (hp : InB p) (hq : InB q) (hl : p.length + q.length ≤ 281474976710656) :
    Calls Try.prog 28 #[.slice A0 p.length c0, .slice A1 q.length c1] w fun e w' =>
      ∃ v, e = .returned v ∧ IR .u8 5 w' w.heap.size v (prodS p q) ∧ Below w.heap.size w w' := by
  by_cases hp0 : p.length = 0
  · have e0 : ((p.length : Int) == 0) = true := by simpa using hp0
    have HP : Hid (prodS p q = []) := Lib.hid (by unfold prodS; rw [if_pos (.inl (List.length_eq_zero_iff.1 hp0))])
    clear hp0
    go_enter Try.func28, Try.ntmps28
    go_wp2
    go_ret
    exact ⟨_, rfl, by rw [HP.out]; exact ir_lit w w.heap.size .u8 5 [] (Nat.le_refl _) (by simp), (Below.refl _ _).alloc (Nat.le_refl _) _⟩
  have e0 : ((p.length : Int) == 0) = false := by simp; exact fun h => hp0 (by rw [h]; rfl)
  by_cases hq0 : q.length = 0
  · have e1 : ((q.length : Int) == 0) = true := by simpa using hq0
    have HP : Hid (prodS p q = []) := Lib.hid (by unfold prodS; rw [if_pos (.inr (List.length_eq_zero_iff.1 hq0))])
    clear hq0 hp0
    go_enter Try.func28, Try.ntmps28
    go_wp2
    go_ret
    exact ⟨_, rfl, by rw [HP.out]; exact ir_lit w w.heap.size .u8 5 [] (Nat.le_refl _) (by simp), (Below.refl _ _).alloc (Nat.le_refl _) _⟩
  have e1 : ((q.length : Int) == 0) = false := by simp; exact fun h => hq0 (by rw [h]; rfl)
  have HP : Hid (prodS p q = outP p q p.length) := Lib.hid (by unfold prodS; rw [if_neg]; rintro (h | h) <;> simp_all)
  have hp1 : 0 < p.length := by omega
  have hq1 : 0 < q.length := by omega
  clear hp0 hq0
  have HQ := Lib.hid hq
  have HPP := Lib.hid hp
  clear hq hp
  go_enter Try.func28, Try.ntmps28
  go_wp2_with (at_make; refine ir_make w.heap.size .u8 1 5 33 info_u8 Try.underlying33 (by decide) rfl rfl _ _ rfl ((p.length : Int) + q.length - 1) rfl rfl (by omega) (by omega) (Below.refl _ _) (Nat.le_refl _) ?_; intro v1 w1 hR hB hb; have HR := Lib.hid hR; clear hR hb)
  have hR := HR.out
  clear HR
  rw [show ((p.length : Int) + q.length - 1).toNat = p.length + q.length - 1 by omega] at hR
  obtain ⟨g, cap, rfl, hg, hcp⟩ := ir_form hR (by simp; omega)
  simp only [List.length_replicate] at hR hcp ⊢
  go_loopw [6] (fun i wr => ∃ (k : Nat), k ≤ p.length ∧ i = .int .i64 k ∧ IR .u8 5 wr w.heap.size (.slice (some ⟨g, 0, none⟩) (p.length + q.length - 1) cap) (outP p q k) ∧ Below w.heap.size w wr) (fun i _ => p.length - (intOf i).toNat)
  case atStart => exact ⟨0, by omega, rfl, hR, hB⟩
  clear hR hB
  case round =>
    obtain ⟨k, hk, rfl, hR, hB⟩ := hrel
    by_cases hlt : k < p.length
    · obtain ⟨ad, rfl, -⟩ := ic_cell (ic_below hr0 hB) k (by omega)
      go_wp2
      obtain ⟨wo, rfl⟩ : ∃ wo : World, wo = wr := ⟨_, rfl⟩
      go_loopw [7] (fun i wr => ∃ (j : Nat), j ≤ q.length ∧ i = .int .i64 j ∧ IR .u8 5 wr w.heap.size (.slice (some ⟨g, 0, none⟩) (p.length + q.length - 1) cap) (inS q (rd p k) k j (outP p q k)) ∧ Below w.heap.size w wr) (fun i _ => q.length - (intOf i).toNat)
      case atStart => exact ⟨0, by omega, rfl, hR, hB⟩
      clear hR hB
      case round =>
        obtain ⟨j, hj, rfl, hR', hB'⟩ := hrel
        by_cases hlj : j < q.length
        · obtain ⟨ad1, rfl, hcell1⟩ := ic_cell (ic_below hr1 hB') j (by omega)
          obtain ⟨ad2, he2, hcell⟩ := ic_cell (ic_below hr0 hB') k (by omega)
          obtain rfl : ad = ad2 := by injection he2
          clear he2
          obtain ⟨hx, hxf⟩ := ir_cell hR' (k + j) (by omega)
          have HB := Lib.hid (HQ.out.at_ j)
          have HB2 := Lib.hid (HPP.out.at_ k)
          have kp : (k : Int) < p.length := by omega
          have jq : (j : Int) < q.length := by omega
          go_wp2
          have s1 : IntKind.i64.wrap ((k : Int) + j) = (k : Int) + j := IntWalk.i64_in _ (by omega)
          have s2 : 0 ≤ (k : Int) + j := by omega
          have s3 : ((k : Int) + j).toNat = k + j := by omega
          have s4 : (k : Int) + j < ((p.length + q.length - 1 : Nat) : Int) := by omega
          go_still_tail 21, (by kernel_rfl)
          still_call ((rmul_int _ _ HB2.out HB.out _).mono fun e w' ⟨he, hw⟩ => ⟨he, hw.symm⟩)
          repeat still_step
          refine wpStill_nil ?_
          change wpList _ _ _ _ _ wr.drew
          clear s1 s2 s3 s4
          go_wp2
          go_roundw
          case rel =>
            refine ⟨j + 1, by omega, by go_num, ?_, below_drew (hB'.setCell hg _)⟩
            exact Kd.R_drew (ir_put hR' (k + j) (Go.bits .xor .u8 (rd (inS q (rd p k) k j (outP p q k)) ((k + j : Nat) : Int)) (mulS (rd p k) (rd q j))))
          case measure => simp [intOf]; omega
        · obtain rfl : j = q.length := by omega
          go_wp2
          go_roundw
          case rel => exact ⟨k + 1, by omega, by go_num, hR', hB'⟩
          case measure => simp [intOf]; omega
    · obtain rfl : k = p.length := by omega
      go_wp2
      go_ret
      exact ⟨_, rfl, by rw [HP.out]; exact hR, hB⟩
end Go.Proofs.Ytndofhcacmghkaa
