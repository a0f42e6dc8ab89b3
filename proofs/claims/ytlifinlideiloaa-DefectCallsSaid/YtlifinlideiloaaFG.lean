import Derived.Test.YtlifinlideiloaaFF
import Derived.Test.YtlifinlideiloaaFA
import Derived.Test.YtlifinlideiloaaFC
/-! The reference's encoding. -/
namespace Go.Proofs.Ytlifinlideiloaa
set_option linter.unusedVariables false
set_option linter.unusedSimpArgs false
open Go.RowKit Go.Proofs
open Go.Proofs.YtlifinlideiloaaW.PrintWords

set_option maxRecDepth 100000 in
set_option maxHeartbeats 2000000 in
theorem rencode_any (T : Tab) (Ap : Option Addr) (cp : Nat) (Am : Option Addr) (cm : Nat) (w : World) (hw : WT T) (hp : IC .i64 w Ap T.P) (hcp : T.P.length ≤ cp) (hm : MRow w Am T.M) :
    Calls Try.prog 40 #[.agg #[.int .i64 T.B, .int .i64 T.S, .int .i64 T.u, .slice Ap T.P.length cp, .slice Am T.M.length cm]] w fun e w' => e = .returned (.string (strOfNums (encL T))) ∧ Below w.heap.size w w' := by
  have q1 := hw.B
  have q2 := hw.P
  have q3 := hw.S
  have q4 := hw.u
  have q5 := hw.len
  have HW := Lib.hid hw
  clear hw
  have hb := (Below.refl w.heap.size w).alloc (Nat.le_refl _) (.cells #[.int .i64 T.B, .int .i64 T.S, .int .i64 T.u, .slice Ap T.P.length cp, .slice Am T.M.length cm] 42)
  have hbx := RB.boxed w T Ap cp Am cm
  have hp1 := ic_below hp hb
  have hm1 := hm.below hb
  clear hp hm
  go_enter Try.func40, Try.ntmps40
  go_wp2
  generalize w.alloc (.cells #[.int .i64 T.B, .int .i64 T.S, .int .i64 T.u, .slice Ap T.P.length cp, .slice Am T.M.length cm] 42) = w1 at hb hbx hp1 hm1 ⊢
  have l0 := fun w' (h : Below w1.heap.size w1 w') => (hbx.below h).cells.1
  have l1 := fun w' (h : Below w1.heap.size w1 w') => (hbx.below h).cells.2.1
  have l2 := fun w' (h : Below w1.heap.size w1 w') => (hbx.below h).cells.2.2.1
  have l3 := fun w' (h : Below w1.heap.size w1 w') => (hbx.below h).cells.2.2.2.1
  have l4 := fun w' (h : Below w1.heap.size w1 w') => (hbx.below h).cells.2.2.2.2
  obtain ⟨f, hf⟩ : ∃ f : Int → ByteArray, (fun n => strOfNums (twoS n)) = f := ⟨_, rfl⟩
  have e0 : ∀ n : Int, (f n).size = 2 := fun n => by rw [← hf, str_size]; rfl
  have K : Hid (∀ n : Int, 0 ≤ n → n < 65536 → ∀ W, Calls Try.prog 56 #[.int .i64 n] W fun e w' => e = .returned (.string (f n)) ∧ Below W.heap.size W w') := Lib.hid (fun n h0 h1 W => by rw [← hf]; exact rtwo_any n h0 h1 W)
  have HF := Lib.hid hf
  clear hf
  go_region_held3 (fun w' => Below w1.heap.size w1 w')
    (first | assumption | exact below_drew (Below.refl _ _) | exact below_step (by assumption) hb8)
    ((go_at_call 56; refine (K.out _ (by omega) (by omega) _).mono ?_; rintro e w8 ⟨rfl, hb8⟩))
  rename_i hHeld
  have hbw := hHeld
  clear hHeld
  obtain ⟨z, hz⟩ : ∃ z, (⟨#[68, 77, 84, 49]⟩ : ByteArray) ++ f T.B ++ f T.S ++ f T.P.length ++ f T.u ++ f T.M.length = z := ⟨_, rfl⟩
  obtain ⟨L1, hL1⟩ : ∃ L1, magicL ++ twosL [(T.B : Int), T.S, T.P.length, T.u, T.M.length] = L1 := ⟨_, rfl⟩
  have HZ : Hid (z = strOfNums L1) := Lib.hid (by
    rw [← hz, ← HF.out, ← hL1, str_append, show strOfNums magicL = ⟨#[68, 77, 84, 49]⟩ from rfl]
    have : twosL [(T.B : Int), T.S, T.P.length, T.u, T.M.length] = twoS T.B ++ twoS T.S ++ twoS T.P.length ++ twoS T.u ++ twoS T.M.length := by simp [twosL]
    rw [this, str_append, str_append, str_append, str_append]
    apply ByteArray.ext
    simp [Array.append_assoc])
  have zs : z.size = 14 := by rw [HZ.out, ← hL1, str_size]; rfl
  rw [hz]
  have HL1 := Lib.hid hL1
  clear hz hL1
  generalize w8 = w9 at hbw ⊢
  go_wp2
  go_loopw [3, 4] (fun v i wr => ∃ (k : Nat) (z : ByteArray), k ≤ T.P.length ∧ i = .int .i64 k ∧ v = .string z ∧ Hid (z = strOfNums (L1 ++ twosL (T.P.take k))) ∧ z.size = 14 + 2 * k ∧ Below w1.heap.size w1 wr) (fun _ i _ => T.P.length - (intOf i).toNat)
  case atStart => exact ⟨0, z, by omega, rfl, rfl, by simpa [twosL] using HZ, by omega, hbw⟩
  clear hbw HZ zs
  case round =>
    obtain ⟨k, z, hk, rfl, rfl, HZ, zs, hbw⟩ := hrel
    by_cases hlt : k < T.P.length
    · have hrg := HW.out.rng _ (rd_mem hlt)
      have hT := take_succ_rd T.P k hlt
      have c3 := l3 _ hbw
      obtain ⟨ad, rfl, hcell⟩ := ic_cell (ic_below hp1 hbw) k hlt
      obtain ⟨x, hx⟩ : ∃ x, rd T.P k = x := ⟨_, rfl⟩
      rw [hx] at hrg hT hcell
      have x0 := hrg.1
      have x1 := hrg.2
      have HN : Hid (z ++ f x = strOfNums (L1 ++ twosL (T.P.take (k + 1)))) := Lib.hid (by rw [hT, twosL_snoc, ← List.append_assoc, str_append, ← HZ.out, ← HF.out])
      have hsz := e0 x
      have hsum : z.size + (f x).size ≤ 9223372036854775807 := by omega
      have hzn : (z ++ f x).size = 14 + 2 * (k + 1) := by rw [ByteArray.size_append]; omega
      clear hrg hT hx
      go_wp2_with fail
      refine (K.out x x0 (by omega) _).mono ?_
      rintro e w6 ⟨rfl, hb6⟩
      have hbw6 := below_step hbw hb6
      go_wp2
      go_roundw
      case rel => exact ⟨k + 1, _, by omega, by go_num, rfl, HN, hzn, hbw6⟩
      case measure => simp [intOf]; omega
    · obtain rfl : k = T.P.length := by omega
      rw [List.take_length] at HZ
      have c3 := l3 _ hbw
      go_wp2
      go_loopw [3, 5] (fun v i wr => ∃ (k : Nat) (z : ByteArray), k ≤ T.M.length ∧ i = .int .i64 k ∧ v = .string z ∧ Hid (z = strOfNums (L1 ++ twosL T.P ++ pairsL (T.M.take k))) ∧ z.size = 14 + 2 * T.P.length + 4 * k ∧ Below w1.heap.size w1 wr) (fun _ i _ => T.M.length - (intOf i).toNat)
      case atStart => exact ⟨0, z, by omega, rfl, rfl, by simpa [pairsL] using HZ, by omega, hbw⟩
      clear hbw HZ zs c3
      case round =>
        obtain ⟨k, z, hk, rfl, rfl, HZ, zs, hbw⟩ := hrel
        have c4 := l4 _ hbw
        by_cases hlt : k < T.M.length
        · have hkey := HW.out.key _ (List.getElem_mem hlt)
          have hval := HW.out.val _ (List.getElem_mem hlt)
          have hT : T.M.take (k + 1) = T.M.take k ++ [T.M[k]] := by rw [List.take_add_one, List.getElem?_eq_getElem hlt]; rfl
          obtain ⟨g, rfl, hgl, m0, m1⟩ := hm1 k hlt
          obtain ⟨xp, hxp⟩ : ∃ xp, T.M[k] = xp := ⟨_, rfl⟩
          rw [hxp] at hkey hval hT m0 m1
          obtain ⟨xa, xb⟩ := xp
          simp only at hkey hval m0 m1
          have ka := hkey.1
          have kb := hkey.2
          have va := hval.1
          have vb := hval.2
          have r0 := fun w' (h : Below w1.heap.size w1 w') => (h.cell hgl).trans m0
          have r1 := fun w' (h : Below w1.heap.size w1 w') => (h.cell hgl).trans m1
          have HN : Hid (z ++ f xa ++ f xb = strOfNums (L1 ++ twosL T.P ++ pairsL (T.M.take (k + 1)))) := Lib.hid (by
            rw [hT, pairsL_snoc, show twosL [xa, xb] = twoS xa ++ twoS xb by simp [twosL], ← List.append_assoc, ← List.append_assoc, str_append, str_append, ← HZ.out, ← HF.out])
          have ha := e0 xa
          have hb' := e0 xb
          have hsum : ¬ 9223372036854775807 < 14 + 2 * T.P.length + 4 * k + 2 := by omega
          have hsum2 : ¬ 9223372036854775807 < 14 + 2 * T.P.length + 4 * k + 2 + 2 := by omega
          have hzn : (z ++ f xa ++ f xb).size = 14 + 2 * T.P.length + 4 * (k + 1) := by rw [ByteArray.size_append, ByteArray.size_append]; omega
          have HZN := Lib.hid hzn
          clear hkey hval hT hxp m0 m1 hzn
          go_wp2
          go_region_held3 (fun w' => Below w1.heap.size w1 w')
            (first | assumption | exact below_drew hbw | exact below_step (by assumption) hb8)
            ((go_at_call 56; refine (K.out _ (by omega) (by omega) _).mono ?_; rintro e w8 ⟨rfl, hb8⟩))
          rename_i hHeld
          go_wp2
          go_roundw
          case rel => exact ⟨k + 1, _, by omega, by go_num, rfl, HN, HZN.out, hHeld⟩
          case measure => simp [intOf]; omega
        · obtain rfl : k = T.M.length := by omega
          rw [List.take_length] at HZ
          have hbd : z = strOfNums (bodyL T) := by rw [HZ.out, ← HL1.out]; unfold bodyL; simp [List.append_assoc]
          have hcr : bytesOf z = bodyL T := by rw [hbd]; exact bytesOf_str _ (body_range HW.out)
          obtain ⟨c, hc⟩ : ∃ c, crcS (bodyL T) = c := ⟨_, rfl⟩
          have hcrr := crcS_range (bodyL T)
          rw [hc] at hcrr
          have HR : Hid (z ++ f c = strOfNums (encL T)) := Lib.hid (by unfold encL; rw [str_append, ← hbd, hc, ← HF.out])
          have hsum : z.size + (f c).size ≤ 9223372036854775807 := by have := e0 c; omega
          have KC := rcrc16_any z (by omega)
          rw [hcr, hc] at KC
          have KB : ∀ W, Calls Try.prog 57 #[.int .u16 c] W fun e w' => e = .returned (.string (f c)) ∧ Below W.heap.size W w' := fun W => by rw [← HF.out]; exact rcrcBytes_any c hcrr W
          clear hcr hbd hc
          go_wp2_with fail
          refine (KC _).mono ?_
          rintro e w6 ⟨rfl, rfl⟩
          go_wp2_with fail
          refine (KB _).mono ?_
          rintro e w6 ⟨rfl, hb6⟩
          have hbw6 := below_step hb (below_step hbw hb6)
          clear KC KB
          go_wp2
          go_ret
          exact ⟨by rw [← HR.out] <;> rfl, hbw6⟩
end Go.Proofs.Ytlifinlideiloaa
