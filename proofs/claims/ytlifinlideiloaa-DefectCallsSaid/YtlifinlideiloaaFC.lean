import Derived.Test.YtlifinlideiloaaFB
/-! The reference's check, walked. -/
namespace Go.Proofs.Ytlifinlideiloaa
set_option linter.unusedVariables false
set_option linter.unusedSimpArgs false
open Go.RowKit
open Go.Proofs.YtlifinlideiloaaW.PrintWords

set_option maxRecDepth 100000 in
theorem rcrc_any (s : ByteArray) (hs : s.size ≤ 1000000) (w : World) : Calls Try.prog 78 #[.int .u16 0, .string s] w fun e w' => e = .returned (.int .u16 (crcS (bytesOf s))) ∧ w = w' := by
  go_enter Try.func78, Try.ntmps78
  go_wp2
  go_loop [0, 5] (fun c i => ∃ k : Nat, k ≤ s.size ∧ i = .int .i64 k ∧ c = .int .u16 (crcS ((bytesOf s).take k))) (fun _ i => s.size - (intOf i).toNat)
  case atStart => exact ⟨0, by omega, rfl, rfl⟩
  case round =>
    obtain ⟨k, hk, rfl, rfl⟩ := hrel
    by_cases hlt : k < s.size
    · have hr := crcS_range ((bytesOf s).take k)
      have hl : k < (bytesOf s).length := by rw [bytesOf_length]; exact hlt
      have hnx : crcS ((bytesOf s).take (k + 1)) = crc1 (crcS ((bytesOf s).take k)) ((s[k]'hlt).toNat : Int) := by
        rw [List.take_add_one, List.getElem?_eq_getElem hl, Option.toList_some, crcS_snoc]
        simp only [bytesOf, List.getElem_map]
        rfl
      have hbt : ((s[k]'hlt).toNat : Int) < 256 := by have := (s[k]'hlt).toNat_lt; omega
      have hct := crc_turn (crcS ((bytesOf s).take k)) ((s[k]'hlt).toNat : Int) hr.1 (by have := hr.2; omega) (by omega) hbt
      obtain ⟨x, hx⟩ : ∃ x, crcS ((bytesOf s).take k) = x := ⟨_, rfl⟩
      obtain ⟨b, hb⟩ : ∃ b, s[k]'hlt = b := ⟨_, rfl⟩
      rw [hx, hb] at hnx hct
      rw [hx] at hr ⊢
      rw [hb] at hbt
      obtain ⟨y, hy⟩ : ∃ y, Go.bits .xor .u16 x ((b.toNat : Int) * 256) = y := ⟨_, rfl⟩
      have hyr := bits_u16_range .xor x ((b.toNat : Int) * 256)
      rw [hy] at hct hyr
      have HS : Hid (crcS ((bytesOf s).take (k + 1)) = itS 8 y) := Lib.hid (by rw [hnx, hct])
      have HY : Hid (Go.bits .xor .u16 x ((b.toNat : Int) * 256) = y) := Lib.hid hy
      have x0 := hr.1
      have x1 := hr.2
      clear hr hx hnx hct hl hy
      go_wp2
      go_loop [0, 6, 7] (fun c j o => ∃ i : Nat, i ≤ 8 ∧ j = .int .i64 i ∧ c = .int .u16 (itS i y)) (fun _ j _ => 8 - (intOf j).toNat)
      case atStart => exact ⟨0, by omega, rfl, by rw [HY.out]; rfl⟩
      case round =>
        obtain ⟨i, hi, rfl, rfl⟩ := hrel
        by_cases hli : i < 8
        · have hr := itS_range i y hyr
          obtain ⟨z, hz⟩ : ∃ z, itS i y = z := ⟨_, rfl⟩
          rw [hz] at hr
          have hs1 : itS (i + 1) y = stpS z := by rw [itS, hz]
          rw [hz]
          have z0 := hr.1
          have z1 := hr.2
          clear hr hz
          by_cases ht : z / 32768 = 1
          · have et : (IntKind.u16.wrap (z.tdiv 32768) == 1) = true := by rw [IntKind.wrap_u16, Int.tdiv_eq_ediv_of_nonneg z0, show z / 32768 % 65536 = z / 32768 by omega]; simpa using ht
            have HS : Hid (itS (i + 1) y = Go.bits .xor .u16 (z % 32768 * 2) 4129) := Lib.hid (by rw [hs1, stpS, if_pos ht, show z * 2 % 65536 = z % 32768 * 2 by omega])
            clear ht hs1
            go_wp2
            go_round
            case rel => exact ⟨i + 1, by omega, by go_num, by rw [HS.out]⟩
            case measure => simp [intOf]; omega
          · have et : (IntKind.u16.wrap (z.tdiv 32768) == 1) = false := by rw [IntKind.wrap_u16, Int.tdiv_eq_ediv_of_nonneg z0, show z / 32768 % 65536 = z / 32768 by omega]; simpa using ht
            have HS : Hid (itS (i + 1) y = z % 32768 * 2) := Lib.hid (by rw [hs1, stpS, if_neg ht, show z * 2 % 65536 = z % 32768 * 2 by omega])
            clear ht hs1
            go_wp2
            go_round
            case rel => exact ⟨i + 1, by omega, by go_num, by rw [HS.out]⟩
            case measure => simp [intOf]; omega
        · obtain rfl : i = 8 := by omega
          go_wp2
          go_round
          case rel => exact ⟨k + 1, by omega, by go_num, by rw [HS.out]⟩
          case measure => simp [intOf]; omega
    · obtain rfl : k = s.size := by omega
      go_wp2
      go_ret
      exact ⟨by rw [List.take_of_length_le (by rw [bytesOf_length]; omega)]; rfl, rfl⟩
theorem rcrc16_any (s : ByteArray) (hs : s.size ≤ 1000000) (w : World) : Calls Try.prog 58 #[.string s] w fun e w' => e = .returned (.int .u16 (crcS (bytesOf s))) ∧ w = w' := by
  go_enter Try.func58, Try.ntmps58
  go_wp2_with (go_at_call 78; refine (rcrc_any s hs _).mono ?_; rintro e w' ⟨rfl, rfl⟩)
  go_ret
  exact ⟨rfl, rfl⟩
set_option maxRecDepth 100000 in
theorem rcrcBytes_any (c : Int) (h : 0 ≤ c ∧ c ≤ 65535) (w : World) : Calls Try.prog 57 #[.int .u16 c] w fun e w' => e = .returned (.string (strOfNums (twoS c))) ∧ Below w.heap.size w w' := by
  have h0 := h.1
  have h1 := h.2
  clear h
  have hC := (ir_ic (ir_lit w w.heap.size .u8 5 [c / 256, c % 256] (Nat.le_refl _) (by simp))).2.2
  have hx : (convert 87 9 (.slice (some ⟨w.heap.size, 0, none⟩) 2 2)).run Try.prog (w.alloc (.cells #[.int .u8 (c / 256), .int .u8 (c % 256)] 5)) = .ok (.string (strOfNums (twoS c))) (w.alloc (.cells #[.int .u8 (c / 256), .int .u8 (c % 256)] 5)) := ic_string (P := Try.prog) 87 9 5 Try.underlying87 Try.underlying5 Try.underlying9 hC 2 2 (by rfl)
  clear hC
  go_enter Try.func57, Try.ntmps57
  have e1 : IntKind.u16.wrap (c.tdiv 256) % 256 = c / 256 := by rw [IntKind.wrap_u16, Int.tdiv_eq_ediv_of_nonneg h0]; omega
  go_wp2
  go_ret
  exact ⟨rfl, (Below.refl _ _).alloc (Nat.le_refl _) _⟩
end Go.Proofs.Ytlifinlideiloaa
