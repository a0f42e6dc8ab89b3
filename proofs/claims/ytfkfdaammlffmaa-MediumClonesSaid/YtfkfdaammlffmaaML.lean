import Derived.Test.YtfkfdaammlffmaaMC
/-! The reference's raw sectors. -/
namespace Go.Proofs.Ytfkfdaammlffmaa
set_option linter.unusedVariables false
set_option linter.unusedSimpArgs false
open Go.RowKit Go.Proofs
open Go.Proofs.YtfkfdaammlffmaaW.PrintWords

theorem info_byte : (Try.prog.info? 5).map (fun i => (i.zero, i.size, i.bytes)) = some (some (.int .u8 0), 1, 1) := by kernel_rfl
/-- the first k bytes of the sector that a call records -/
def rawL (b : Int) (k : Nat) : List Int := (List.range k).map (fun i : Nat => (b + (i : Int) % 7) % 256)
theorem rawL_succ (b : Int) (k : Nat) : rawL b (k + 1) = rawL b k ++ [(b + (k : Int) % 7) % 256] := by simp [rawL, List.range_succ]
theorem rawL_length (b : Int) (k : Nat) : (rawL b k).length = k := by simp [rawL]
theorem wrap_byte (b : Int) : wrap64 b % 256 = b % 256 := by
  unfold wrap64; omega

set_option maxRecDepth 100000 in
set_option maxHeartbeats 2000000 in
theorem raw_any (kd at_ b lba : Int) (sh : Bool) (v4 v6 v7 : Value) (w : World) (n : Nat) (hn : n = if sh then 2351 else 2352) :
    Calls Try.prog 17 #[.agg #[.int .i64 kd, .int .i64 at_, .int .i64 b, .bool sh, v4, .int .i64 lba, v6, v7]] w fun e w' => e = .returned (.string (strOfNums (rawL b n))) ∧ Below w.heap.size w w' := by
  have hbA := (Below.refl w.heap.size w).alloc (Nat.le_refl _) (.cells #[.int .i64 kd, .int .i64 at_, .int .i64 b, .bool sh, v4, .int .i64 lba, v6, v7] 46)
  have hblk := heap_alloc_new w (.cells #[.int .i64 kd, .int .i64 at_, .int .i64 b, .bool sh, v4, .int .i64 lba, v6, v7] 46)
  have hsz : (w.alloc (.cells #[.int .i64 kd, .int .i64 at_, .int .i64 b, .bool sh, v4, .int .i64 lba, v6, v7] 46)).heap.size = w.heap.size + 1 := by simp
  have hR0 := ir_lit (w.alloc (.cells #[.int .i64 kd, .int .i64 at_, .int .i64 b, .bool sh, v4, .int .i64 lba, v6, v7] 46)) (w.heap.size + 1) .u8 5 [] (by rw [hsz]; exact Nat.le_refl _) (by simp)
  have hb1 := (Below.refl (w.heap.size + 1) (w.alloc (.cells #[.int .i64 kd, .int .i64 at_, .int .i64 b, .bool sh, v4, .int .i64 lba, v6, v7] 46))).alloc (by rw [hsz]; exact Nat.le_refl _) (.cells #[] 5)
  cases sh with
  | true =>
    have hn' : n = 2351 := hn
    subst hn'
    clear hn
    go_enter Try.func17, Try.ntmps17
    go_wp2
    rw [hsz] at hR0
    generalize w.alloc (.cells #[.int .i64 kd, .int .i64 at_, .int .i64 b, .bool true, v4, .int .i64 lba, v6, v7] 46) = w1 at hbA hblk hsz hR0 hb1 ⊢
    have c2 : w1.cell? ⟨w.heap.size, 2, none⟩ = some (.int .i64 b) := by simp [World.cell?, hblk]
    clear hblk
    go_loopw [3, 5] (fun v i wr => ∃ k : Nat, k ≤ 2351 ∧ i = .int .i64 k ∧ IR .u8 5 wr (w.heap.size + 1) v (rawL b k) ∧ Below (w.heap.size + 1) w1 wr) (fun _ i _ => 2351 - (intOf i).toNat)
    case atStart => exact ⟨0, by omega, rfl, hR0, hb1⟩
    clear hR0 hb1
    case round =>
      obtain ⟨k, hk, rfl, hR, hb⟩ := hrel
      by_cases hlt : k < 2351
      · have c2' : wr.cell? ⟨w.heap.size, 2, none⟩ = some (.int .i64 b) := (hb.cell (show w.heap.size < w.heap.size + 1 by omega)).trans c2
        have hl := rawL_length b k
        have hbs := hb.size
        rw [hsz] at hbs
        have HS := Lib.hid (rawL_succ b k)
        have hwb := wrap_byte (b + (k : Int) % 7)
        go_wp2_with (at_builtin; refine ir_app1 (w0 := w1) (w.heap.size + 1) .u8 1 5 52 info_byte Try.underlying52 (by decide) rfl _ _ rfl u3 (rawL b k) ((b + (k : Int) % 7) % 256) rfl rfl hR hb hbs (by omega) ?_; intro v7 w7 hR7 hb7 hg7 hat7; have HR7 := Lib.hid hR7; clear hR7 hg7 hat7)
        go_roundw
        case rel => exact ⟨k + 1, by omega, by go_num, by rw [HS.out]; exact HR7.out, hb7⟩
        case measure => simp [intOf]; omega
      · obtain rfl : k = 2351 := by omega
        obtain ⟨A3, d3, rfl, hd3⟩ := ir_slice hR (rawL_length b 2351)
        have hx := ic_string (P := Try.prog) 52 9 5 Try.underlying52 Try.underlying5 Try.underlying9 (ir_ic hR).2.2 2351 d3 (rawL_length b 2351)
        obtain ⟨z, hz⟩ : ∃ z, strOfNums (rawL b 2351) = z := ⟨_, rfl⟩
        rw [hz] at hx
        have HZ := Lib.hid hz
        have hbz := hbA.trans (hb.mono (by omega))
        clear hR hz
        go_wp2
        go_ret
        exact ⟨by rw [HZ.out] <;> rfl, hbz⟩
  | false =>
    have hn' : n = 2352 := hn
    subst hn'
    clear hn
    go_enter Try.func17, Try.ntmps17
    go_wp2
    rw [hsz] at hR0
    generalize w.alloc (.cells #[.int .i64 kd, .int .i64 at_, .int .i64 b, .bool false, v4, .int .i64 lba, v6, v7] 46) = w1 at hbA hblk hsz hR0 hb1 ⊢
    have c2 : w1.cell? ⟨w.heap.size, 2, none⟩ = some (.int .i64 b) := by simp [World.cell?, hblk]
    clear hblk
    go_loopw [3, 5] (fun v i wr => ∃ k : Nat, k ≤ 2352 ∧ i = .int .i64 k ∧ IR .u8 5 wr (w.heap.size + 1) v (rawL b k) ∧ Below (w.heap.size + 1) w1 wr) (fun _ i _ => 2352 - (intOf i).toNat)
    case atStart => exact ⟨0, by omega, rfl, hR0, hb1⟩
    clear hR0 hb1
    case round =>
      obtain ⟨k, hk, rfl, hR, hb⟩ := hrel
      by_cases hlt : k < 2352
      · have c2' : wr.cell? ⟨w.heap.size, 2, none⟩ = some (.int .i64 b) := (hb.cell (show w.heap.size < w.heap.size + 1 by omega)).trans c2
        have hl := rawL_length b k
        have hbs := hb.size
        rw [hsz] at hbs
        have HS := Lib.hid (rawL_succ b k)
        have hwb := wrap_byte (b + (k : Int) % 7)
        go_wp2_with (at_builtin; refine ir_app1 (w0 := w1) (w.heap.size + 1) .u8 1 5 52 info_byte Try.underlying52 (by decide) rfl _ _ rfl u3 (rawL b k) ((b + (k : Int) % 7) % 256) rfl rfl hR hb hbs (by omega) ?_; intro v7 w7 hR7 hb7 hg7 hat7; have HR7 := Lib.hid hR7; clear hR7 hg7 hat7)
        go_roundw
        case rel => exact ⟨k + 1, by omega, by go_num, by rw [HS.out]; exact HR7.out, hb7⟩
        case measure => simp [intOf]; omega
      · obtain rfl : k = 2352 := by omega
        obtain ⟨A3, d3, rfl, hd3⟩ := ir_slice hR (rawL_length b 2352)
        have hx := ic_string (P := Try.prog) 52 9 5 Try.underlying52 Try.underlying5 Try.underlying9 (ir_ic hR).2.2 2352 d3 (rawL_length b 2352)
        obtain ⟨z, hz⟩ : ∃ z, strOfNums (rawL b 2352) = z := ⟨_, rfl⟩
        rw [hz] at hx
        have HZ := Lib.hid hz
        have hbz := hbA.trans (hb.mono (by omega))
        clear hR hz
        go_wp2
        go_ret
        exact ⟨by rw [HZ.out] <;> rfl, hbz⟩
end Go.Proofs.Ytfkfdaammlffmaa
