import Derived.Test.YtfkfdaammlffmaaMW
/-! Read, walked. -/
namespace Go.Proofs.Ytfkfdaammlffmaa
set_option linter.unusedVariables false
set_option linter.unusedSimpArgs false
open Go.RowKit Go.Proofs
open Go.Proofs.YtfkfdaammlffmaaW.PrintWords

set_option maxRecDepth 100000 in
set_option maxHeartbeats 4000000 in
theorem read_in {w : World} {base t g cap : Nat} {kd en : Int} {S : List Sf} {sv lv : Value} {offs : List Int} (h : MB w base t g cap kd en S sv lv) (hS : S.length ≤ 4096) (hL : LM w base lv offs) (hoL : offs.length ≤ 20000000) (k : Nat) (s : Sf) (hs : S[k]? = some s)
    (le lc : PL) (hle : HasSet w s.er le) (hlc : HasMap w s.ch lc) (hok : OffOk le) (hok2 : OffOk lc) (hll : le.length ≤ 100000) (hraw : s.st = 1 → s.raw.size = 2352) (hst : s.st = 0 ∨ s.st = 1 ∨ s.st = 2 ∨ s.st = 3) (R : ByteArray × List Int × Int) (hRT : readT s.st s.raw lc (goneL le offs k) = R) :
    Calls Try.prog 15 #[.pointer (some ⟨t, 0, none⟩), .int .i64 k] w fun e w' => ∃ v, e = .returned (.tuple #[.string R.1, v, .int .i64 R.2.2]) ∧ IR .i64 3 w' w.heap.size v R.2.1 ∧ Below w.heap.size w w' := by
  have hk : k < S.length := (List.getElem?_eq_some_iff.1 hs).1
  obtain ⟨G, hG⟩ : ∃ G, goneL le offs k = G := ⟨_, rfl⟩
  have HG := Lib.hid hG
  rw [hG] at hRT
  clear hG
  have KH := has_in h hS k ⟨by omega, by omega⟩
  have HSE := Lib.hid hs
  have HRT := Lib.hid hRT
  have HOK := Lib.hid hok
  have HOK2 := Lib.hid hok2
  have HRAW := Lib.hid hraw
  have hsrt := hlc.srt
  clear hs hRT hok hok2 hraw
  go_enter Try.func15, Try.ntmps15
  go_wp2_with fail
  refine KH.mono ?_
  rintro e w1 ⟨rfl, hb⟩
  have h1 := h.below hb
  have hL1 := hL.below hb
  have hle1 := hle.below hb
  have hlc1 := hlc.below hb
  obtain ⟨c0, c1, c2, c3, c4⟩ := h1.cells
  obtain ⟨s', hs', d0, d1, d2, d3, d4, df⟩ := sf_cells h1.row k hk
  rw [HSE.out] at hs'
  obtain rfl := Option.some.inj hs'
  obtain ⟨st, ct, raw, er, ch⟩ := s
  simp only at d0 d1 d2 d3 d4 hle1 hlc1 hst HRAW HRT hle hlc
  have hbA : Below w1.heap.size w1 (w1.alloc (.cells #[.int .i64 st, .int .i64 ct, .string raw, .map er, .map ch] 101)) := (Below.refl _ _).alloc (Nat.le_refl _) _
  have h11 := h1.below hbA
  have hL2 := hL1.below hbA
  have hlc2 := hlc1.below hbA
  have hle2 := hle1.below hbA
  have hB2 := below_step hb hbA
  have hgw : w.heap.size ≤ w1.heap.size := hb.size
  have HCHL := Lib.hid hlc1.lt
  have HERL := Lib.hid hle1.lt
  have htl := h1.lt
  have hgl := Kd.R_lt h1.row g rfl
  have kb := fun W => print_bytes (P := Try.prog) 9 52 5 Try.underlying9 Try.underlying52 Try.underlying5 raw W
  have hz1 : S.length ≤ 9223372036854775807 := by omega
  have hk0 : (0 : Int) ≤ k := by omega
  have hk1 : (k : Int) < S.length := by omega
  have hblk := heap_alloc_new w1 (.cells #[.int .i64 st, .int .i64 ct, .string raw, .map er, .map ch] 101)
  have e0 : (w1.alloc (.cells #[.int .i64 st, .int .i64 ct, .string raw, .map er, .map ch] 101)).cell? ⟨w1.heap.size, 0, none⟩ = some (.int .i64 st) := by unfold World.cell?; rw [hblk]; rfl
  have e2 : (w1.alloc (.cells #[.int .i64 st, .int .i64 ct, .string raw, .map er, .map ch] 101)).cell? ⟨w1.heap.size, 2, none⟩ = some (.string raw) := by unfold World.cell?; rw [hblk]; rfl
  have e4 : (w1.alloc (.cells #[.int .i64 st, .int .i64 ct, .string raw, .map er, .map ch] 101)).cell? ⟨w1.heap.size, 4, none⟩ = some (.map ch) := by unfold World.cell?; rw [hblk]; rfl
  have HH1 := Lib.hid h1
  have HL1 := Lib.hid hL1
  have HE1 := Lib.hid hle1
  have HBB := Lib.hid hb
  clear hblk hle hlc hL h1 hL1 hle1 hlc1 KH hs' df
  rcases hst with hst | hst | hst | hst
  · have q0 : (st == 0) = true := by simp [hst]
    have HR0 : Hid (R = (ByteArray.empty, [], 8)) := Lib.hid (by rw [← HRT.out]; unfold readT; rw [if_pos hst])
    clear hst
    go_wp2
    exact bodyPost_ret (v := .tuple #[.string ⟨#[]⟩, .slice none 0 0, .int .i64 8]) (by simp [results, Try.results15, go_sem]) rfl ⟨_, by rw [HR0.out] <;> rfl, by rw [HR0.out]; exact ir_nil _ _ _ _, hB2⟩
  rotate_left
  · have q0 : (st == 0) = false := by simp [hst]
    have q2 : (st == 2) = true := by simp [hst]
    have HR0 : Hid (R = (ByteArray.empty, [], 9)) := Lib.hid (by rw [← HRT.out]; unfold readT; rw [if_neg (by omega), if_neg (by omega)])
    clear hst
    go_wp2
    exact bodyPost_ret (v := .tuple #[.string ⟨#[]⟩, .slice none 0 0, .int .i64 9]) (by simp [results, Try.results15, go_sem]) rfl ⟨_, by rw [HR0.out] <;> rfl, by rw [HR0.out]; exact ir_nil _ _ _ _, hB2⟩
  · have q0 : (st == 0) = false := by simp [hst]
    have q2 : (st == 2) = false := by simp [hst]
    have q3 : (st == 3) = true := by simp [hst]
    have HR0 : Hid (R = (ByteArray.empty, [], 9)) := Lib.hid (by rw [← HRT.out]; unfold readT; rw [if_neg (by omega), if_neg (by omega)])
    clear hst
    go_wp2
    exact bodyPost_ret (v := .tuple #[.string ⟨#[]⟩, .slice none 0 0, .int .i64 9]) (by simp [results, Try.results15, go_sem]) rfl ⟨_, by rw [HR0.out] <;> rfl, by rw [HR0.out]; exact ir_nil _ _ _ _, hB2⟩
  · have q0 : (st == 0) = false := by simp [hst]
    have q2 : (st == 2) = false := by simp [hst]
    have q3 : (st == 3) = false := by simp [hst]
    have hraw := HRAW.out hst
    have HR0 : Hid (R = (strOfNums (readL (bytesOf raw) lc G), G, 0)) := Lib.hid (by rw [← HRT.out]; unfold readT; rw [if_neg (by omega), if_pos hst])
    have HRS := Lib.hid hraw
    have hbW : Below (w1.alloc (.cells #[.int .i64 st, .int .i64 ct, .string raw, .map er, .map ch] 101)).heap.size (w1.alloc (.cells #[.int .i64 st, .int .i64 ct, .string raw, .map er, .map ch] 101)) (Lib.bytesWorld (w1.alloc (.cells #[.int .i64 st, .int .i64 ct, .string raw, .map er, .map ch] 101)) 5 raw) := bytes_below (Below.refl _ _) (Nat.le_refl _) _ _
    have hby := by_new (w1.alloc (.cells #[.int .i64 st, .int .i64 ct, .string raw, .map er, .map ch] 101)) 5 raw
    have hlc3 := hlc2.below hbW
    have hb3 := below_step hbA hbW
    obtain ⟨wb, hwb⟩ : ∃ wb, Lib.bytesWorld (w1.alloc (.cells #[.int .i64 st, .int .i64 ct, .string raw, .map er, .map ch] 101)) 5 raw = wb := ⟨_, rfl⟩
    rw [hwb] at hbW hby hlc3 hb3
    have HWB := Lib.hid hwb
    have f4 : (Lib.bytesWorld (w1.alloc (.cells #[.int .i64 st, .int .i64 ct, .string raw, .map er, .map ch] 101)) 5 raw).cell? ⟨w1.heap.size, 4, none⟩ = some (.map ch) := by rw [hwb]; exact (hbW.cell (show w1.heap.size < _ by simp)).trans e4
    have hsb : w1.heap.size + 2 ≤ wb.heap.size := by rw [← hwb, Lib.bytesWorld_size]; simp
    simp only [Array.size_push, World.alloc] at hby
    clear hst hraw hwb
    go_wp2_with (at_range; rw [HWB.out]; refine ro_range _ rfl _ rfl ch lc rfl hlc3 ?_; intro w4 cnt0 hr4 hg4 hs4)
    go_frame
    obtain ⟨c8, hc8⟩ : ∃ c8, grownCap (w1.alloc (.cells #[.int .i64 st, .int .i64 ct, .string raw, .map er, .map ch] 101)) raw.size 0 5 = c8 := ⟨_, rfl⟩
    rw [hc8]
    have hb4 : Below w1.heap.size w1 w4 := hb3.grown hg4 hb3.size (fun j e => by cases e)
    have hr4' : wb.heap.size < w4.heap.size := by omega
    have hby4 : By w4 (w1.heap.size + 1) (xorL (bytesOf raw) lc lc) := by
      rw [xorL_start (fun x hx => by
        obtain ⟨u, -, rfl⟩ := List.mem_map.1 hx
        have := u.toNat_lt
        exact ⟨by omega, by omega⟩)]
      exact hby.of_block (hg4.block _ (by omega) (by simp))
    obtain ⟨rb, hrb⟩ : ∃ rb, wb.heap.size = rb := ⟨_, rfl⟩
    rw [hrb] at hr4 hr4' hsb ⊢
    have hrl : (bytesOf raw).length = raw.size := bytesOf_length raw
    have HRL := Lib.hid hrl
    clear hc8 hbW hby hlc3 hb3 hg4 hs4 f4 hrb e0 e2 hlc2 hB2 h11 hL2 hle2 kb d0 d1 d2 d3 d4 c0 c1 c2 c3 c4 hrl hbA HWB
    go_loopw [10] (fun _ wr => ∃ (rem : PL) (cnt : Nat), RO wr ch rb lc rem cnt ∧ Hid (∀ x ∈ rem, x ∈ lc) ∧ By wr (w1.heap.size + 1) (xorL (bytesOf raw) lc rem) ∧ Below w1.heap.size w1 wr ∧ rb < wr.heap.size) (fun _ wr => roLeft wr ch rb)
    case atStart => exact ⟨lc, cnt0, hr4, Lib.hid (fun x h => h), hby4, hb4, hr4'⟩
    clear hr4 hb4 hby4 hr4'
    case round =>
      obtain ⟨rem, cnt, hr, hsub, hby, hb5, hrb5⟩ := hrel
      go_wp2_with (at_next; refine ro_next _ rfl _ rfl ch rb lc rem cnt rfl hr hsrt hsub.out ?_ ?_)
      · intro hrem
        subst hrem
        have h5 := HH1.out.below hb5
        have hL5 := HL1.out.below hb5
        have hle5 := HE1.out.below hb5
        clear hr hsub
        obtain ⟨X, hX⟩ : ∃ X, xorL (bytesOf raw) lc [] = X := ⟨_, rfl⟩
        have hXl : X.length = raw.size := by rw [← hX, xorL_length, HRL.out]
        have HX := Lib.hid hX
        have HXL := Lib.hid hXl
        rw [hX] at hby
        clear hX hXl
        go_wp2_with fail
        refine (erased_any h5 hS hL5 hoL k hk er (by rw [List.getD_eq_getElem?_getD, HSE.out]; rfl) le hle5 HOK.out hll).mono ?_
        rw [HG.out]
        rintro e w6 ⟨v6, rfl, hR6, hb6⟩
        obtain ⟨n, hn⟩ : ∃ n, G.length = n := ⟨_, rfl⟩
        have HN := Lib.hid hn
        obtain ⟨A6, c6, rfl, -⟩ := ir_slice hR6 hn
        have hn2 : n ≤ 2352 := by rw [← hn, ← HG.out]; exact eraL_length _
        have HGM : Hid (∀ x ∈ G, 0 ≤ x ∧ x < 2352) := Lib.hid (fun x hx => by rw [← HG.out] at hx; exact (mem_eraL.1 hx).1)
        have hby6 : By w6 (w1.heap.size + 1) (zeroL X G 0) := by rw [zeroL_start]; exact hby.of_block (hb6.block _ hby.1)
        have hb7 : Below w.heap.size w w6 := by
          have := below_step HBB.out hb5
          exact below_step this hb6
        have hb7' : w.heap.size ≤ wr.heap.size := Nat.le_trans hgw hb5.size
        have hnB : ∀ j, (Value.slice A6 n c6).ownBlock = some j → j ≠ w1.heap.size + 1 := fun j e h => by
          have := Kd.R_base hR6 j e
          have := hby.1
          omega
        have HNB := Lib.hid hnB
        clear hn hby h5 hL5 hle5 hb5 hrb5 hnB
        go_wp2
        go_loopw [55] (fun i wr2 => ∃ m : Nat, m ≤ n ∧ i = .int .i64 m ∧ By wr2 (w1.heap.size + 1) (zeroL X G m) ∧ But (w1.heap.size + 1) (w1.heap.size + 1) w6 wr2) (fun i _ => n - (intOf i).toNat)
        case atStart => exact ⟨0, by omega, rfl, hby6, But.refl _ _ _⟩
        clear hby6
        case round =>
          obtain ⟨m, hm, rfl, hby, hbt⟩ := hrel
          have hR7 := ir_of_block hR6 (w' := wr) (fun j e => hbt.block j (Kd.R_lt hR6 j e) (HNB.out j e) (HNB.out j e))
          by_cases hlt : m < n
          · have hml : m < G.length := by rw [HN.out]; exact hlt
            obtain ⟨ad, rfl, hcell⟩ := ic_cell (ir_ic hR7).2.2 m hml
            obtain ⟨x, hx⟩ : ∃ x, rd G (m : Int) = x := ⟨_, rfl⟩
            have hgm : G[m]? = some x := by rw [← hx]; simp [rd, List.getD_eq_getElem?_getD, List.getElem?_eq_getElem hml]
            obtain ⟨hx0, hx1⟩ := HGM.out x (List.mem_of_getElem? hgm)
            rw [hx] at hcell
            have hst0 := zeroL_step (L := X) hgm hx0
            obtain ⟨kx, rfl⟩ : ∃ kx : Nat, x = kx := ⟨x.toNat, by omega⟩
            rw [Int.toNat_natCast] at hst0
            have hkr : kx < raw.size := by have := HRS.out; omega
            have hkl : kx < (zeroL X G m).length := by rw [zeroL_length, HXL.out]; exact hkr
            have hkr2 : (kx : Int) < raw.size := by omega
            obtain ⟨hcx, hfx⟩ := hby.2 kx hkl
            have hput := hby.put kx 0 hkl
            rw [hst0] at hput
            have hbt2 : But (w1.heap.size + 1) (w1.heap.size + 1) w6 (wr.setCell ⟨w1.heap.size + 1, kx, none⟩ (.int .u8 0)) := hbt.set rfl _
            have hml2 : (m : Int) < n := by omega
            clear hst0 hkl hgm hx hml hR7 hR6
            go_wp2
            go_roundw
            case rel => exact ⟨m + 1, by omega, by go_num, hput, hbt2⟩
            case measure => simp [intOf]; omega
          · obtain rfl : n = m := by omega
            have hfin : zeroL X G n = readL (bytesOf raw) lc G := by rw [← HX.out, ← HN.out]; exact readL_of _ _ _
            rw [hfin] at hby
            have hrdl : (readL (bytesOf raw) lc G).length = raw.size := by unfold readL; rw [mkL_length, HRL.out]
            have hx := ic_string (P := Try.prog) 52 9 5 Try.underlying52 Try.underlying5 Try.underlying9 (hby.ic (by rw [hrdl]; have := HRS.out; omega)) raw.size c8 hrdl
            obtain ⟨z, hz⟩ : ∃ z, strOfNums (readL (bytesOf raw) lc G) = z := ⟨_, rfl⟩
            rw [hz] at hx
            have HR1 : Hid (R = (z, G, 0)) := Lib.hid (by rw [HR0.out, hz])
            have hbz : Below w.heap.size w wr := But.below hb7 hbt hb7.size (by omega) (by omega)
            have hRz := ir_lower hR7 (base' := w.heap.size) hb7'
            clear hz hfin hrdl hR7 hR6 hby
            go_wp2
            exact bodyPost_ret (v := .tuple #[.string z, .slice A6 n c6, .int .i64 0]) (by simp [results, Try.results15, go_sem]) rfl ⟨_, by rw [HR1.out] <;> rfl, by rw [HR1.out]; exact hRz, hbz⟩
      · intro x cv w2 cnt2 hwx hwc hmem hr2 hlt hg2 hs2 hen
        have hox := HOK2.out _ (hsub.out _ hmem)
        obtain ⟨kx, rfl⟩ : ∃ kx : Nat, x = kx := ⟨x.toNat, by have := hox.1; simp only at this; omega⟩
        have hx1 : (kx : Int) < raw.size := by have := hox.2; have := HRS.out; simp only at *; omega
        have hx2 : kx < raw.size := by omega
        have hst0 := xorL_step (raw := bytesOf raw) hsrt hsub.out hmem (by omega) (by rw [HRL.out]; exact hx1)
        simp only [Int.toNat_natCast] at hst0
        have HST := Lib.hid hst0
        have hby2 : By w2 (w1.heap.size + 1) (xorL (bytesOf raw) lc rem) := hby.of_block (hg2.block _ (by omega) (fun e => by injection e with e; omega))
        obtain ⟨hcx, hfx⟩ := hby2.2 kx (by rw [xorL_length, HRL.out]; exact hx2)
        have hput := hby2.put kx (xb (rd (xorL (bytesOf raw) lc rem) kx) cv) (by rw [xorL_length, HRL.out]; exact hx2)
        have hb6 : Below w1.heap.size w1 w2 := hb5.grown hg2 hb5.size (fun j e => by injection e with e; omega)
        have hsz2 : rb < w2.heap.size := by omega
        have hb7 : Below w1.heap.size w1 (w2.setCell ⟨w1.heap.size + 1, kx, none⟩ (.int .u8 (xb (rd (xorL (bytesOf raw) lc rem) kx) cv))) := hb6.setCell (by simp) _
        have hr3 : RO (w2.setCell ⟨w1.heap.size + 1, kx, none⟩ (.int .u8 (xb (rd (xorL (bytesOf raw) lc rem) kx) cv))) ch rb lc (strL kx rem) cnt2 := hr2.of_block (fun b e => Below.heap_setCell _ _ _ _ (by have := HCHL.out b e; show b ≠ w1.heap.size + 1; omega)) (Below.heap_setCell _ _ _ _ (by show rb ≠ w1.heap.size + 1; omega))
        clear hox hwx hwc hmem hst0
        go_wp2
        go_roundw
        case rel => exact ⟨strL kx rem, cnt2, hr3, Lib.hid (fun y hy => hsub.out y (List.mem_filter.1 hy).1), by rw [← HST.out]; exact hput, hb7, by simpa [World.setCell] using hsz2⟩
        case measure => rw [hr.left_eq]; exact Nat.lt_of_le_of_lt (Nat.le_of_eq hr3.left_eq) hlt
end Go.Proofs.Ytfkfdaammlffmaa
