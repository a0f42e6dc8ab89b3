import Derived.Test.YtndofhcacmghkaaHc
import Derived.Test.YtndofhcacmghkaaK1
namespace Go.Proofs.Ytndofhcacmghkaa
set_option linter.unusedVariables false
set_option linter.unusedSimpArgs false
open Go.RowKit
open Go.Proofs.YtndofhcacmghkaaW.PrintWords

/-- f times q added from place i on: k coefficients of it -/
def inS (q : List Int) (f : Int) (i : Nat) : Nat → List Int → List Int
  | 0, r => r
  | k + 1, r => (inS q f i k r).set (i + k) (Go.bits .xor .u8 (rd (inS q f i k r) ((i + k : Nat) : Int)) (mulS f (rd q k)))
theorem inS_length (q : List Int) (f : Int) (i k : Nat) (r : List Int) : (inS q f i k r).length = r.length := by
  induction k with
  | zero => rfl
  | succ k ih => rw [inS, List.length_set, ih]
/-- the product of the first i coefficients of p with q -/
def outP (p q : List Int) : Nat → List Int
  | 0 => List.replicate (p.length + q.length - 1) 0
  | i + 1 => inS q (rd p i) i q.length (outP p q i)
theorem outP_length (p q : List Int) (i : Nat) : (outP p q i).length = p.length + q.length - 1 := by
  induction i with
  | zero => simp [outP]
  | succ i ih => rw [outP, inS_length, ih]
def prodS (p q : List Int) : List Int := if p = [] ∨ q = [] then [] else outP p q p.length

def InB (l : List Int) : Prop := ∀ x ∈ l, 0 ≤ x ∧ x ≤ 255
theorem InB.at_ {l : List Int} (h : InB l) (k : Nat) : 0 ≤ rd l k ∧ rd l k ≤ 255 := by
  unfold rd
  rw [Int.toNat_natCast, List.getD_eq_getElem?_getD]
  by_cases hk : k < l.length
  · rw [List.getElem?_eq_getElem hk]; exact h _ (List.getElem_mem hk)
  · rw [List.getElem?_eq_none (by omega)]; simp

set_option maxRecDepth 100000 in
theorem product_any (A0 : Option Addr) (c0 : Nat) (p : List Int) (A1 : Option Addr) (c1 : Nat) (q : List Int) (w : World)
    (hr0 : IC .u8 w A0 p) (hr1 : IC .u8 w A1 q) (hq : InB q) (hl : p.length + q.length ≤ 281474976710656) :
    Calls Try.prog 22 #[.slice A0 p.length c0, .slice A1 q.length c1] w fun e w' =>
      ∃ v, e = .returned v ∧ IR .u8 5 w' w.heap.size v (prodS p q) ∧ Below w.heap.size w w' := by
  have hinfo : (Try.prog.info? 5).map (fun i => (i.zero, i.size, i.bytes)) = some (some (.int .u8 0), 1, 1) := by kernel_rfl
  by_cases hp0 : p.length = 0
  · have e0 : ((p.length : Int) == 0) = true := by simpa using hp0
    have HP : Hid (prodS p q = []) := Lib.hid (by unfold prodS; rw [if_pos (.inl (List.length_eq_zero_iff.1 hp0))])
    clear hp0
    go_enter Try.func22, Try.ntmps22
    go_wp2
    go_ret
    exact ⟨_, rfl, by rw [HP.out]; exact Kd.R_nil _ _ _ _ _, Below.refl _ _⟩
  have e0 : ((p.length : Int) == 0) = false := by simp; exact fun h => hp0 (by rw [h]; rfl)
  by_cases hq0 : q.length = 0
  · have e1 : ((q.length : Int) == 0) = true := by simpa using hq0
    have HP : Hid (prodS p q = []) := Lib.hid (by unfold prodS; rw [if_pos (.inr (List.length_eq_zero_iff.1 hq0))])
    clear hq0 hp0
    go_enter Try.func22, Try.ntmps22
    go_wp2
    go_ret
    exact ⟨_, rfl, by rw [HP.out]; exact Kd.R_nil _ _ _ _ _, Below.refl _ _⟩
  have e1 : ((q.length : Int) == 0) = false := by simp; exact fun h => hq0 (by rw [h]; rfl)
  have HP : Hid (prodS p q = outP p q p.length) := Lib.hid (by unfold prodS; rw [if_neg]; rintro (h | h) <;> simp_all)
  have hp1 : 0 < p.length := by omega
  have hq1 : 0 < q.length := by omega
  clear hp0 hq0
  have HQ := Lib.hid hq
  have HI := Lib.hid hinfo
  clear hq hinfo
  go_enter Try.func22, Try.ntmps22
  go_wp2_with (at_make; refine Kd.R_make (Kd.int .u8) w.heap.size 5 rfl rfl _ _ _ rfl ((p.length : Int) + q.length - 1) rfl rfl Try.underlying33 _ 1 HI.out rfl (by decide) (by decide) 0 (ok := Any) (okp := fun _ => True) rfl (fun _ h => h) trivial (by omega) (by omega) (Below.refl _ _) (Nat.le_refl _) ?_; intro v1 w1 hR hB hg hb; have HR := Lib.hid hR; clear hR hg hb)
  have hR := HR.out
  clear HR
  rw [show ((p.length : Int) + q.length - 1).toNat = p.length + q.length - 1 by omega] at hR
  obtain ⟨g, cap, rfl, hg, hgl, -⟩ := Kd.R_form hR (by simp; omega)
  simp only [List.length_replicate] at hR ⊢
  clear hgl
  go_loopw [27] (fun i wr => ∃ (k : Nat), k ≤ p.length ∧ i = .int .i64 k ∧ IR .u8 5 wr w.heap.size (.slice (some ⟨g, 0, none⟩) (p.length + q.length - 1) cap) (outP p q k) ∧ Below w.heap.size w wr) (fun i _ => p.length - (intOf i).toNat)
  case atStart => exact ⟨0, by omega, rfl, hR, hB⟩
  case round =>
    obtain ⟨k, hk, rfl, hR, hB⟩ := hrel
    by_cases hlt : k < p.length
    · obtain ⟨ad, rfl, hcell⟩ := Kd.at_int (Kd.C_below hr0 hB) k (by omega) (by omega)
      simp only [Int.toNat_natCast] at hcell
      go_wp2
      obtain ⟨wo, rfl⟩ : ∃ wo : World, wo = wr := ⟨_, rfl⟩
      go_loopw [34] (fun i wr => ∃ (j : Nat), j ≤ q.length ∧ i = .int .i64 j ∧ IR .u8 5 wr w.heap.size (.slice (some ⟨g, 0, none⟩) (p.length + q.length - 1) cap) (inS q (rd p k) k j (outP p q k)) ∧ Below w.heap.size w wr) (fun i _ => q.length - (intOf i).toNat)
      case atStart => exact ⟨0, by omega, rfl, hR, hB⟩
      case round =>
        obtain ⟨j, hj, rfl, hR', hB'⟩ := hrel
        by_cases hlj : j < q.length
        · obtain ⟨ad1, rfl, hcell1⟩ := Kd.at_int (Kd.C_below hr1 hB') j (by omega) (by omega)
          simp only [Int.toNat_natCast] at hcell1
          have hlen : (inS q (rd p k) k j (outP p q k)).length = p.length + q.length - 1 := by rw [inS_length, outP_length]
          obtain ⟨hx, hxf⟩ := Kd.R_celln (enc := Value.int .u8) (h1 := fun _ => rfl) 0 hR' ((k + j : Nat) : Int) (by omega) (by omega)
          simp only [Int.toNat_natCast] at hx hxf
          have HB := Lib.hid (HQ.out.at_ j)
          clear hlen
          go_wp2
          have s1 : IntKind.i64.wrap ((k : Int) + j) = (k : Int) + j := IntWalk.i64_in _ (by omega)
          have s2 : 0 ≤ (k : Int) + j := by omega
          have s3 : ((k : Int) + j).toNat = k + j := by omega
          have s4 : (k : Int) + j < ((p.length + q.length - 1 : Nat) : Int) := by omega
          go_still_tail 11, (by kernel_rfl)
          still_call ((mul_any _ _ HB.out.1 HB.out.2 _).mono fun e w' ⟨he, hw⟩ => ⟨he, hw.symm⟩)
          repeat still_step
          refine wpStill_nil ?_
          change wpList _ _ _ _ _ wr.drew
          clear s1 s2 s3 s4
          go_wp2
          go_roundw
          case rel =>
            refine ⟨j + 1, by omega, by go_num, ?_, below_drew (hB'.setCell hg _)⟩
            have hput := Kd.R_putn (enc := Value.int .u8) (h1 := fun _ => rfl) hR' ((k + j : Nat) : Int) (Go.bits .xor .u8 (rd (inS q (rd p k) k j (outP p q k)) ((k + j : Nat) : Int)) (mulS (rd p k) (rd q j)))
            simp only [Int.toNat_natCast] at hput
            exact Kd.R_drew hput
          case measure => simp [intOf]; omega
        · obtain rfl : j = q.length := by omega
          go_wp2
          go_roundw
          case rel => exact ⟨k + 1, by omega, by go_num, hR', hB'⟩
          case measure => simp [intOf]; omega
    · obtain rfl : k = p.length := by omega
      go_wp2
      go_ret
      refine ⟨_, rfl, ?_, hB⟩
      rw [HP.out]
      exact hR
end Go.Proofs.Ytndofhcacmghkaa
