import Derived.Test.YtfkfdaammlffmaaNA
import Derived.Test.YtfkfdaammlffmaaML
import Derived.Test.YtfkfdaammlffmaaMK
/-! The law MediumWears. -/
namespace Go.Proofs.Ytfkfdaammlffmaa
set_option linter.unusedVariables false
set_option linter.unusedSimpArgs false
open Go.RowKit Go.Proofs
open Go.Proofs.YtfkfdaammlffmaaW.PrintWords

theorem byte_wf {a : Int} (h : (Lit.int .u8 a).wf = true) : 0 ≤ a ∧ a ≤ 255 := by
  simpa [Lit.wf, IntKind.min, IntKind.max, IntKind.signed, IntKind.bits] using h
theorem goneL_none (i : Int) : goneL [] [] i = [] := by
  refine ext_srt (eraL_srt _) (by simp) (fun x => ?_)
  unfold goneL
  rw [mem_eraL, look_nil, show lostAt [] i = [] from rfl]
  simp
theorem str_bytesOf (s : ByteArray) : strOfNums (bytesOf s) = s := by
  apply ByteArray.ext
  apply Array.ext'
  rw [strOfNums_data]
  unfold bytesOf
  rw [List.map_map]
  conv => rhs; rw [← List.map_id s.data.toList]
  refine List.map_congr_left (fun b _ => ?_)
  simp
theorem bytesOf_byte (s : ByteArray) : ∀ x ∈ bytesOf s, IsByte x := fun x hx => by
  obtain ⟨u, -, rfl⟩ := List.mem_map.1 hx
  have := u.toNat_lt
  exact ⟨by omega, by omega⟩
theorem readL_none (s : ByteArray) : strOfNums (readL (bytesOf s) [] []) = s := by
  have : readL (bytesOf s) [] [] = bytesOf s := by
    unfold readL
    rw [mkL_congr _ _ (fun j => rd (bytesOf s) j) (fun j hj => ?_), mkL_self]
    rw [look_nil]
    have := rd_byte (bytesOf_byte s) j
    simp [xb_zero _ this.1 this.2]
  rw [this, str_bytesOf]
theorem readT_none (s : ByteArray) (i : Int) : readT 1 s [] (goneL [] [] i) = (s, [], 0) := by
  unfold readT
  rw [if_neg (by decide), if_pos rfl, goneL_none, readL_none]

/-- the sector has been recorded k times and has no erased offsets -/
def WR (s : Sf) (k : Nat) : Prop := s.ct = k ∧ s.er = none
def wS (s : Sf) : List Sf := [sf0, s]
theorem wS_ct {s : Sf} (h0 : 0 ≤ s.ct) (h1 : s.ct ≤ 1000) : CtOk (wS s) := ct_one _ _ (by simp [sf0]) ⟨h0, by omega⟩
theorem wears_rec {n : Int} {s : Sf} {z : ByteArray} (hz : z.size = 2352) (hs : s.er = none) (hn : s.ct + 1 ≤ n) : recordS 2 n (wS s) 1 z = (wS ⟨1, s.ct + 1, z, none, none⟩, 0) := by
  unfold recordS writeS wS
  rw [if_neg (by simp), if_neg (by rw [hz]; simp)]
  simp [hs, show ¬ n < s.ct + 1 by omega]
theorem wears_worn {n : Int} {s : Sf} {z : ByteArray} (hz : z.size = 2352) (hs : s.er = none) (hn : n < s.ct + 1) : recordS 2 n (wS s) 1 z = (wS ⟨3, s.ct + 1, ByteArray.empty, none, none⟩, 16) := by
  unfold recordS writeS wS
  rw [if_neg (by simp), if_neg (by rw [hz]; simp)]
  simp [hs, hn]
theorem wears_erase {c : Int} {z : ByteArray} : eraseS 2 (wS ⟨1, c, z, none, none⟩) 1 = (wS ⟨0, c, ByteArray.empty, none, none⟩, 0) := by
  unfold eraseS wS
  simp
theorem wears_erase2 {c : Int} {z : ByteArray} : eraseS 2 (wS ⟨3, c, z, none, none⟩) 1 = (wS ⟨3, c, z, none, none⟩, 16) := by
  unfold eraseS wS
  simp
theorem rawS_size (b : Int) : (strOfNums (rawL b 2352)).size = 2352 := by rw [strOfNums_size, rawL_length]

set_option maxRecDepth 100000 in
set_option maxHeartbeats 4000000 in
theorem law_MediumWears (e0 m0 : Int) (er : Bool) (w : World) (we : (Lit.int .u8 e0).wf = true) (wm : (Lit.int .u8 m0).wf = true) :
    Calls Try.prog 4 #[.int .u8 e0, .int .u8 m0, .bool er] w fun e w' => e = .returned (.bool true) ∧ Below w.heap.size w w' := by
  obtain ⟨e1, e2⟩ := byte_wf we
  obtain ⟨m1, m2⟩ := byte_wf wm
  clear we wm
  go_enter Try.func4, Try.ntmps4
  go_wp2_with fail
  refine (awake_any _).mono ?_
  rintro e w1 ⟨rfl, hB⟩
  go_wp2_with fail
  obtain ⟨n, hn⟩ : ∃ n : Nat, 1 + e0 % 20 = n := ⟨(1 + e0 % 20).toNat, by omega⟩
  rw [hn]
  have n1 : 1 ≤ n := by omega
  have n2 : n ≤ 20 := by omega
  clear hn e1 e2
  refine (new_any 2 2 n _ ⟨by decide, by decide, by decide, by omega, by omega⟩).mono ?_
  rintro e w2 ⟨t, g, cap, rfl, h2, hB2⟩
  have hgb := h2.gbase
  have htb := h2.bt
  have hlow : w.heap.size ≤ w1.heap.size := hB.size
  have hB3 := below_step hB hB2
  have h2' : MB w2 w1.heap.size t g cap 2 n (wS sf0) (.slice none 0 0) (.map none) := h2
  clear h2 hB hB2
  go_wp2
  have KR : ∀ (s s' : Sf) (z : ByteArray) (x : Int), recordS 2 n (wS s) 1 z = (wS s', x) → z.size = 2352 → 0 ≤ s.ct → s.ct ≤ 1000 → ∀ W, MB W w1.heap.size t g cap 2 n (wS s) (.slice none 0 0) (.map none) → Below w.heap.size w W → Calls Try.prog 11 #[.pointer (some ⟨t, 0, none⟩), .int .i64 1, .string z] W fun e w' => e = .returned (.int .i64 x) ∧ MB w' w1.heap.size t g cap 2 n (wS s') (.slice none 0 0) (.map none) ∧ Below w.heap.size w w' := by
    intro s s' z x he hz h0 h1 W hW hB
    have := record_any hW (by simp [wS]) (.inr rfl) (wS_ct h0 h1) 1 z (by omega)
    rw [he] at this
    exact this.mono (fun e w' ⟨h1, h2, h3⟩ => ⟨h1, h2, But.below hB h3 hB.size (by omega) (by omega)⟩)
  have KE : ∀ (s s' : Sf) (x : Int), eraseS 2 (wS s) 1 = (wS s', x) → ∀ W, MB W w1.heap.size t g cap 2 n (wS s) (.slice none 0 0) (.map none) → Below w.heap.size w W → Calls Try.prog 18 #[.pointer (some ⟨t, 0, none⟩), .int .i64 1] W fun e w' => e = .returned (.int .i64 x) ∧ MB w' w1.heap.size t g cap 2 n (wS s') (.slice none 0 0) (.map none) ∧ Below w.heap.size w w' := by
    intro s s' x he W hW hB
    have := erase_any hW (by simp [wS]) 1
    rw [he] at this
    exact this.mono (fun e w' ⟨h1, h2, h3⟩ => ⟨h1, h2, But.below hB h3 hB.size (by omega) (by omega)⟩)
  have KD : ∀ (s : Sf) (R : ByteArray × List Int × Int), readT s.st s.raw [] (goneL [] [] ((1 : Nat) : Int)) = R → s.er = none → s.ch = none → (s.st = 1 → s.raw.size = 2352) → (s.st = 0 ∨ s.st = 1 ∨ s.st = 2 ∨ s.st = 3) → ∀ W, MB W w1.heap.size t g cap 2 n (wS s) (.slice none 0 0) (.map none) → Below w.heap.size w W → Calls Try.prog 15 #[.pointer (some ⟨t, 0, none⟩), .int .i64 1] W fun e w' => ∃ v, e = .returned (.tuple #[.string R.1, v, .int .i64 R.2.2]) ∧ IR .i64 3 w' W.heap.size v R.2.1 ∧ MB w' w1.heap.size t g cap 2 n (wS s) (.slice none 0 0) (.map none) ∧ Below w.heap.size w w' := by
    intro s R hR he hc hr hs W hW hB
    have := read_in hW (by simp [wS]) (LM.nil _ _) (by simp) 1 s rfl [] [] (by rw [he]; exact .nil) (by rw [hc]; exact .nil) (fun x h => by cases h) (fun x h => by cases h) (by simp) hr hs R hR
    exact this.mono (fun e w' ⟨v, h1, h2, h3⟩ => ⟨v, h1, h2, hW.below h3, below_step hB h3⟩)
  have HKR := Lib.hid KR
  have HKE := Lib.hid KE
  have HKD := Lib.hid KD
  clear KR KE KD
  go_loopw [40] (fun i wr => ∃ (k : Nat) (s : Sf), k ≤ n ∧ i = .int .i64 k ∧ MB wr w1.heap.size t g cap 2 n (wS s) (.slice none 0 0) (.map none) ∧ Below w.heap.size w wr ∧ Hid (WR s k)) (fun i _ => n - (intOf i).toNat)
  case atStart => exact ⟨0, sf0, by omega, rfl, h2', hB3, Lib.hid ⟨rfl, rfl⟩⟩
  clear h2' hB3
  case round =>
    obtain ⟨k, s, hk, rfl, h3, hB3, hs⟩ := hrel
    by_cases hlt : k < n
    · go_wp2_with fail
      refine (raw_any 0 0 k 0 false _ _ _ _ 2352 rfl).mono ?_
      rintro e w4 ⟨rfl, hb4⟩
      obtain ⟨z, hz⟩ : ∃ z, strOfNums (rawL k 2352) = z := ⟨_, rfl⟩
      rw [hz]
      have hzl : Hid (z.size = 2352) := Lib.hid (by rw [← hz]; exact rawS_size _)
      have h4 := h3.below hb4
      have hB4 := below_step hB3 hb4
      clear hz h3 hB3 hb4
      go_wp2_with fail
      refine (HKR.out s ⟨1, s.ct + 1, z, none, none⟩ z 0 (wears_rec hzl.out hs.out.2 (by have := hs.out.1; omega)) hzl.out (by have := hs.out.1; omega) (by have := hs.out.1; omega) _ h4 hB4).mono ?_
      rintro e w5 ⟨rfl, h5, hB5⟩
      clear h4 hB4
      go_wp2_with fail
      refine (HKD.out ⟨1, s.ct + 1, z, none, none⟩ (z, [], 0) (readT_none z _) rfl rfl (fun _ => hzl.out) (.inr (.inl rfl)) _ h5 hB5).mono ?_
      rintro e w6 ⟨v6, rfl, hR6, h6, hB6⟩
      obtain ⟨A6, c6, rfl, -⟩ := ir_slice hR6 (n := 0) rfl
      have HC : Hid (WR ⟨1, s.ct + 1, z, none, none⟩ (k + 1)) := Lib.hid ⟨by have := hs.out.1; simp only; omega, rfl⟩
      clear h5 hB5 hR6
      cases er with
      | false =>
        go_wp2
        go_roundw
        case rel => exact ⟨k + 1, _, by omega, by go_num, h6, hB6, HC⟩
        case measure => simp [intOf]; omega
      | true =>
        by_cases hlast : (k : Int) < n - 1
        · go_wp2_with fail
          refine (HKE.out _ ⟨0, s.ct + 1, ByteArray.empty, none, none⟩ 0 wears_erase _ h6 hB6).mono ?_
          rintro e w7 ⟨rfl, h7, hB7⟩
          have HC : Hid (WR ⟨0, s.ct + 1, ByteArray.empty, none, none⟩ (k + 1)) := Lib.hid ⟨by have := hs.out.1; simp only; omega, rfl⟩
          clear h6 hB6
          go_wp2
          go_roundw
          case rel => exact ⟨k + 1, _, by omega, by go_num, h7, hB7, HC⟩
          case measure => simp [intOf]; omega
        · have hl2 : (n : Int) - 1 ≤ k := by omega
          clear hlast
          go_wp2
          go_roundw
          case rel => exact ⟨k + 1, _, by omega, by go_num, h6, hB6, HC⟩
          case measure => simp [intOf]; omega
    · obtain rfl : n = k := by omega
      obtain ⟨j0, hj0⟩ : ∃ j0 : Nat, 1 + m0 % 4 = j0 := ⟨(1 + m0 % 4).toNat, by omega⟩
      have j1 : 1 ≤ j0 := by omega
      have j2 : j0 ≤ 4 := by omega
      have hs0 : Hid (WR s (n + 0)) := hs
      have HJ0 := Lib.hid hj0
      clear hs hj0
      go_wp2
      rw [HJ0.out]
      go_loopw [85] (fun i wr => ∃ (j : Nat) (s : Sf), j ≤ j0 ∧ i = .int .i64 j ∧ MB wr w1.heap.size t g cap 2 n (wS s) (.slice none 0 0) (.map none) ∧ Below w.heap.size w wr ∧ Hid (WR s (n + j))) (fun i _ => j0 - (intOf i).toNat)
      case atStart => exact ⟨0, s, by omega, rfl, h3, hB3, hs0⟩
      clear h3 hB3 hs0
      case round =>
        obtain ⟨j, s, hj, rfl, h3, hB3, hs⟩ := hrel
        by_cases hlt : j < j0
        · go_wp2_with fail
          refine (raw_any 0 0 j 0 false _ _ _ _ 2352 rfl).mono ?_
          rintro e w4 ⟨rfl, hb4⟩
          obtain ⟨z, hz⟩ : ∃ z, strOfNums (rawL j 2352) = z := ⟨_, rfl⟩
          rw [hz]
          have hzl : Hid (z.size = 2352) := Lib.hid (by rw [← hz]; exact rawS_size _)
          have h4 := h3.below hb4
          have hB4 := below_step hB3 hb4
          clear hz h3 hB3 hb4
          go_wp2_with fail
          refine (HKR.out s ⟨3, s.ct + 1, ByteArray.empty, none, none⟩ z 16 (wears_worn hzl.out hs.out.2 (by have := hs.out.1; omega)) hzl.out (by have := hs.out.1; omega) (by have := hs.out.1; omega) _ h4 hB4).mono ?_
          rintro e w5 ⟨rfl, h5, hB5⟩
          clear h4 hB4
          have HC : Hid (WR ⟨3, s.ct + 1, ByteArray.empty, none, none⟩ (n + (j + 1))) := Lib.hid ⟨by have := hs.out.1; simp only; omega, rfl⟩
          go_wp2_with fail
          refine (state_any h5 (by simp [wS]) 1).mono ?_
          rw [show stateS (wS ⟨3, s.ct + 1, ByteArray.empty, none, none⟩) 1 = (3, 0) from rfl]
          rintro e w6 ⟨rfl, hb6⟩
          have h6 := h5.below hb6
          have hB6 := below_step hB5 hb6
          clear h5 hB5 hb6
          go_wp2_with fail
          refine (HKD.out ⟨3, s.ct + 1, ByteArray.empty, none, none⟩ (ByteArray.empty, [], 9) rfl rfl rfl (fun h => by cases h) (.inr (.inr (.inr rfl))) _ h6 hB6).mono ?_
          rintro e w7 ⟨v7, rfl, hR7, h7, hB7⟩
          obtain ⟨A7, c7, rfl, -⟩ := ir_slice hR7 (n := 0) rfl
          clear h6 hB6 hR7
          go_wp2_with fail
          refine (HKE.out _ ⟨3, s.ct + 1, ByteArray.empty, none, none⟩ 16 wears_erase2 _ h7 hB7).mono ?_
          rintro e w8 ⟨rfl, h8, hB8⟩
          clear h7 hB7
          go_wp2
          go_roundw
          case rel => exact ⟨j + 1, _, by omega, by go_num, h8, hB8, HC⟩
          case measure => simp [intOf]; omega
        · obtain rfl : j0 = j := by omega
          go_wp2_with fail
          refine (state_any h3 (by simp [wS]) 0).mono ?_
          rw [show stateS (wS s) 0 = (0, 0) from rfl]
          rintro e w6 ⟨rfl, hb6⟩
          have hB6 := below_step hB3 hb6
          go_wp2
          go_ret
          exact ⟨rfl, hB6⟩
end Go.Proofs.Ytfkfdaammlffmaa
