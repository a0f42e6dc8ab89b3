import Derived.Test.YtlifinlideiloaaEB
/-! The check of a string. -/
namespace Go.Proofs.Ytlifinlideiloaa
set_option linter.unusedVariables false
set_option linter.unusedSimpArgs false
open Go.RowKit
open Go.Proofs.YtlifinlideiloaaW.PrintWords

def crc1 (c b : Int) : Int := Go.bits .xor .u16 (c * 256 % 65536) (crcT (Go.bits .xor .u8 (c / 256) b).toNat)
def crcS (l : List Int) : Int := l.foldl crc1 0
theorem crcS_snoc (l : List Int) (b : Int) : crcS (l ++ [b]) = crc1 (crcS l) b := by simp [crcS]
theorem bits_u8_rng (op : BinOp) (a b : Int) : 0 ≤ Go.bits op .u8 a b ∧ Go.bits op .u8 a b < 256 := by
  unfold Go.bits
  simp only [IntKind.wrap_u8]
  omega
theorem crcS_range (l : List Int) : 0 ≤ crcS l ∧ crcS l ≤ 65535 := by
  rcases List.eq_nil_or_concat l with rfl | ⟨l, b, rfl⟩
  · simp [crcS]
  · rw [List.concat_eq_append, crcS_snoc]; exact bits_u16_range _ _ _

set_option maxRecDepth 100000 in
theorem crc_any (s : ByteArray) (hs : s.size ≤ 1000000) (w : World) : Calls Try.prog 59 #[.int .u16 0, .string s] w fun e w' => e = .returned (.int .u16 (crcS (bytesOf s))) ∧ Below w.heap.size w w' := by
  have hz := zero_tab
  go_enter Try.func59, Try.ntmps59
  go_wp2_with fail
  refine (direct_any _).mono ?_
  rintro e w1 ⟨rfl, hb⟩
  have h0 := heap_alloc_new w1 (.cells zeros256 105)
  go_wp2_with (refine wpList_store_row rfl 105 _ _ rfl _ _ rfl rfl _ _ h0 (by kernel_rfl) (by simp [tabTo, zeros256]) (tabTo_one _) ?_)
  have h1 : ((w1.alloc (.cells zeros256 105)).setRow w1.heap.size (tabTo 256)).heap[w1.heap.size]? = some (.cells (tabTo 256) 105 (0, 0)) := setRow_heap _ _ _ _ _ _ h0
  have hb2 : Below w.heap.size w ((w1.alloc (.cells zeros256 105)).setRow w1.heap.size (tabTo 256)) := below_setRow (hb.alloc hb.size _) hb.size _
  generalize (w1.alloc (.cells zeros256 105)).setRow w1.heap.size (tabTo 256) = w2 at h1 hb2 ⊢
  clear hz h0
  generalize w1.heap.size = g at h1 ⊢
  clear hb
  go_loop [0, 10] (fun c i => ∃ k : Nat, k ≤ s.size ∧ i = .int .i64 k ∧ c = .int .u16 (crcS ((bytesOf s).take k))) (fun _ i => s.size - (intOf i).toNat)
  case atStart => exact ⟨0, by omega, rfl, rfl⟩
  case round =>
    obtain ⟨k, hk, rfl, rfl⟩ := hrel
    by_cases hlt : k < s.size
    · have hr := crcS_range ((bytesOf s).take k)
      obtain ⟨x, hx⟩ : ∃ x, crcS ((bytesOf s).take k) = x := ⟨_, rfl⟩
      rw [hx] at hr ⊢
      have x0 := hr.1
      have x1 := hr.2
      have hzr := bits_u8_rng .xor (x / 256) ((s[k]'hlt).toNat : Int)
      have z0 := hzr.1
      have z1 := hzr.2
      have hzn : (Go.bits .xor .u8 (x / 256) ((s[k]'hlt).toNat : Int)).toNat < 256 := by omega
      have hcell : w2.cell? ⟨g, (Go.bits .xor .u8 (x / 256) ((s[k]'hlt).toNat : Int)).toNat, none⟩ = some (.int .u16 (crcT (Go.bits .xor .u8 (x / 256) ((s[k]'hlt).toNat : Int)).toNat)) := by
        rw [cell_of_row _ _ _ _ _ _ h1]; exact tabTo_at _ hzn
      have HS : Hid (crcS ((bytesOf s).take (k + 1)) = Go.bits .xor .u16 (x * 256 % 65536) (crcT (Go.bits .xor .u8 (x / 256) ((s[k]'hlt).toNat : Int)).toNat)) := Lib.hid (by
        have hl : k < (bytesOf s).length := by rw [bytesOf_length]; exact hlt
        rw [List.take_add_one, List.getElem?_eq_getElem hl, Option.toList_some, crcS_snoc, hx, crc1]
        simp only [bytesOf, List.getElem_map]
        rfl)
      clear hr hx hzr hzn
      go_wp2
      go_round
      case rel => exact ⟨k + 1, by omega, by go_num, by rw [HS.out, IntKind.wrap_u16]⟩
      case measure => simp [intOf]; omega
    · obtain rfl : k = s.size := by omega
      go_wp2
      go_ret
      exact ⟨by rw [List.take_of_length_le (by rw [bytesOf_length]; omega)]; rfl, hb2⟩

set_option maxRecDepth 100000 in
theorem crc16_any (s : ByteArray) (hs : s.size ≤ 1000000) (w : World) : Calls Try.prog 44 #[.string s] w fun e w' => e = .returned (.int .u16 (crcS (bytesOf s))) ∧ Below w.heap.size w w' := by
  go_enter Try.func44, Try.ntmps44
  go_wp2_with (go_at_call 59; refine (crc_any s hs _).mono ?_; rintro e w' ⟨rfl, hb⟩)
  go_ret
  exact ⟨rfl, hb⟩
set_option maxRecDepth 100000 in
theorem crcBytes_any (c : Int) (h : 0 ≤ c ∧ c ≤ 65535) (w : World) : Calls Try.prog 43 #[.int .u16 c] w fun e w' => e = .returned (.string (strOfNums (twoS c))) ∧ Below w.heap.size w w' := by
  have h0 := h.1
  have h1 := h.2
  clear h
  have hC := (ir_ic (ir_lit w w.heap.size .u8 5 [c / 256, c % 256] (Nat.le_refl _) (by simp))).2.2
  have hx : (convert 87 9 (.slice (some ⟨w.heap.size, 0, none⟩) 2 2)).run Try.prog (w.alloc (.cells #[.int .u8 (c / 256), .int .u8 (c % 256)] 5)) = .ok (.string (strOfNums (twoS c))) (w.alloc (.cells #[.int .u8 (c / 256), .int .u8 (c % 256)] 5)) := ic_string (P := Try.prog) 87 9 5 Try.underlying87 Try.underlying5 Try.underlying9 hC 2 2 (by rfl)
  clear hC
  go_enter Try.func43, Try.ntmps43
  go_wp2
  go_ret
  exact ⟨rfl, (Below.refl _ _).alloc (Nat.le_refl _) _⟩
end Go.Proofs.Ytlifinlideiloaa
