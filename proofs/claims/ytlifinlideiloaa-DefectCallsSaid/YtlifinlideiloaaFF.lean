import Derived.Test.YtlifinlideiloaaFE
/-! The reference's table: the sectors of all blocks; one block's sector; the block of a sector; the bad sectors. -/
namespace Go.Proofs.Ytlifinlideiloaa
set_option linter.unusedVariables false
set_option linter.unusedSimpArgs false
open Go.RowKit Go.Proofs
open Go.Proofs.YtlifinlideiloaaW.PrintWords

/-- a row of replacements at the head of a block -/
def MRow (w : World) (Am : Option Addr) (l : PL) : Prop :=
  ∀ j (hj : j < l.length), ∃ g, Am = some ⟨g, 0, none⟩ ∧ g < w.heap.size ∧ w.cell? ⟨g, j * 2, none⟩ = some (.int .i64 (l[j]).1) ∧ w.cell? ⟨g, j * 2 + 1, none⟩ = some (.int .i64 (l[j]).2)
theorem MRow.below {w w' : World} {Am : Option Addr} {l : PL} (h : MRow w Am l) (hb : Below w.heap.size w w') : MRow w' Am l := fun j hj => by
  obtain ⟨g, h1, h2, h3, h4⟩ := h j hj
  exact ⟨g, h1, Nat.lt_of_lt_of_le h2 hb.size, (hb.cell h2).trans h3, (hb.cell h2).trans h4⟩
theorem MRow.nil (w : World) (Am : Option Addr) : MRow w Am [] := fun j hj => by simp at hj
theorem MRow.of {w : World} {base n c : Nat} {A : Option Addr} {l : PL} (h : RR w base (.slice A n c) l) : MRow w A l := fun j hj => by
  obtain ⟨h1, h2, h3⟩ := Kd.R_reads' h
  obtain ⟨g, cap, he, hg, hlt, -⟩ := Kd.R_form h (by omega)
  injection he with he
  subst he
  obtain ⟨ad, x, ha, hx, c0, c1⟩ := rc_cell (n := n) (by rw [h1]; exact h3) j (by omega)
  injection ha with ha
  subst ha
  rw [Addr.add_mid, Nat.zero_add] at c0 c1
  have : l.getD j (0, 0) = l[j] := by simp [List.getD_eq_getElem?_getD, hj]
  rw [this] at hx
  subst hx
  exact ⟨g, rfl, hlt, c0, c1⟩

set_option maxRecDepth 100000 in
theorem rall_any (T : Tab) (Ap : Option Addr) (cp : Nat) (Am : Option Addr) (cm : Nat) (w : World) (hw : WT T) (hp : IC .i64 w Ap T.P) (hcp : T.P.length ≤ cp) (hm : MRow w Am T.M) :
    Calls Try.prog 54 #[.agg #[.int .i64 T.B, .int .i64 T.S, .int .i64 T.u, .slice Ap T.P.length cp, .slice Am T.M.length cm]] w fun e w' => ∃ v, e = .returned v ∧ IR .i64 3 w' w.heap.size v (physL T T.B) ∧ Below w.heap.size w w' := by
  have q1 := hw.B
  have q2 := hw.P
  have q3 := hw.S
  have q4 := hw.u
  have q5 := hw.len
  have HW := Lib.hid hw
  have HA := Lib.hid (physL_whole T)
  clear hw
  have hb := (Below.refl w.heap.size w).alloc (Nat.le_refl _) (.cells #[.int .i64 T.B, .int .i64 T.S, .int .i64 T.u, .slice Ap T.P.length cp, .slice Am T.M.length cm] 42)
  have hbx := RB.boxed w T Ap cp Am cm
  have hp1 := ic_below hp hb
  have hm1 := hm.below hb
  have he : (w.alloc (.cells #[.int .i64 T.B, .int .i64 T.S, .int .i64 T.u, .slice Ap T.P.length cp, .slice Am T.M.length cm] 42)).heap.size = w.heap.size + 1 := by simp
  go_enter Try.func54, Try.ntmps54
  go_wp2_with fail
  generalize w.alloc (.cells #[.int .i64 T.B, .int .i64 T.S, .int .i64 T.u, .slice Ap T.P.length cp, .slice Am T.M.length cm] 42) = w1 at hb hbx hp1 hm1 he ⊢
  refine (rhomes_any T Ap cp Am cm _ HW.out hp1 hcp).mono ?_
  rintro e w2 ⟨v2, rfl, hR, hb2⟩
  have hbx2 := hbx.below hb2
  have hm2 := hm1.below hb2
  rw [he] at hR
  obtain ⟨A2, c2, rfl, hc2⟩ := ir_slice hR (n := T.B) (by rw [physL_length])
  have hbw2 := below_step hb hb2
  have hb1 := HW.out.B1
  obtain ⟨g2, rfl, hg2⟩ := ir_some hR (by omega)
  clear hbx hm1 hp1 hb hb2
  go_wp2
  go_loopw [4] (fun i wr => ∃ (k : Nat), k ≤ T.M.length ∧ i = .int .i64 k ∧ IR .i64 3 wr (w.heap.size + 1) (.slice (some ⟨g2, 0, none⟩) T.B c2) (physL (upT T k) T.B) ∧ RB wr w.heap.size T Ap cp Am cm ∧ Below w.heap.size w wr) (fun i _ => T.M.length - (intOf i).toNat)
  case atStart => exact ⟨0, by omega, rfl, hR, hbx2, hbw2⟩
  clear hR hbx2 hm2 hbw2
  case round =>
    obtain ⟨k, hk, rfl, hR, hbx, hbw⟩ := hrel
    obtain ⟨c0, c1, c2', c3, c4⟩ := hbx.cells
    by_cases hlt : k < T.M.length
    · have hkey := HW.out.key _ (List.getElem_mem hlt)
      have hval := HW.out.val _ (List.getElem_mem hlt)
      have hup := physL_up HW.out k hlt
      obtain ⟨g, rfl, hgl, m0, m1⟩ := (hm.below hbw) k hlt
      obtain ⟨xp, hxp⟩ : ∃ xp, T.M[k] = xp := ⟨_, rfl⟩
      rw [hxp] at hkey hval hup m0 m1
      obtain ⟨xa, xb⟩ := xp
      simp only at hkey hval hup m0 m1
      obtain ⟨na, rfl⟩ : ∃ n : Nat, xa = n := ⟨xa.toNat, by omega⟩
      rw [Int.toNat_natCast] at hup
      have HUP := Lib.hid hup
      have ka := hkey.2
      have va := hval.1
      have vb := hval.2
      have hna : na < T.B := by omega
      have hnal : na < 4096 := by omega
      clear hxp hkey hval hup
      obtain ⟨hx, hxf⟩ := ir_cell hR na hna
      have hput := ir_put hR na ((T.B : Int) + T.P.length + xb)
      have hne : w.heap.size ≠ g2 := by omega
      have s1 : IntKind.i64.wrap ((T.B : Int) + T.P.length) = (T.B : Int) + T.P.length := IntWalk.i64_in _ (by omega)
      have s2 : IntKind.i64.wrap ((T.B : Int) + T.P.length + xb) = (T.B : Int) + T.P.length + xb := IntWalk.i64_in _ (by omega)
      go_wp2
      go_still_tail 21, (by kernel_rfl)
      change wpList _ _ _ _ _ wr.drew
      go_wp2
      go_roundw
      case rel =>
        refine ⟨k + 1, by omega, by go_num, by rw [← HUP.out]; exact Kd.R_drew hput, ?_, below_drew (hbw.setCell (show w.heap.size ≤ g2 by omega) _)⟩
        exact (Below.heap_setCell _ _ _ _ hne).trans hbx
      case measure => simp [intOf]; omega
    · obtain rfl : k = T.M.length := by omega
      go_wp2
      go_ret
      exact ⟨_, rfl, by rw [← HA.out]; exact Kd.R_lower hR (by omega), hbw⟩

theorem physL_at (T : Tab) (n b : Int) (hn : n = T.B) (h : 0 ≤ b ∧ b < n) : rd (physL T T.B) b = (physS T b).1 := by
  obtain ⟨k, rfl⟩ : ∃ k : Nat, b = k := ⟨b.toNat, by omega⟩
  exact physL_rd T T.B k (by omega)

set_option maxRecDepth 100000 in
theorem rphys_any (T : Tab) (Ap : Option Addr) (cp : Nat) (Am : Option Addr) (cm : Nat) (w : World) (hw : WT T) (hp : IC .i64 w Ap T.P) (hcp : T.P.length ≤ cp) (hm : MRow w Am T.M) (b : Int) :
    Calls Try.prog 41 #[.agg #[.int .i64 T.B, .int .i64 T.S, .int .i64 T.u, .slice Ap T.P.length cp, .slice Am T.M.length cm], .int .i64 b] w fun e w' => e = .returned (.tuple #[.int .i64 (physS T b).1, .int .i64 (physS T b).2]) ∧ Below w.heap.size w w' := by
  have q1 := hw.B
  have q2 := hw.P
  have HW := Lib.hid hw
  clear hw
  have hb := (Below.refl w.heap.size w).alloc (Nat.le_refl _) (.cells #[.int .i64 T.B, .int .i64 T.S, .int .i64 T.u, .slice Ap T.P.length cp, .slice Am T.M.length cm] 42)
  have hbx := RB.boxed w T Ap cp Am cm
  have hp1 := ic_below hp hb
  have hm1 := hm.below hb
  clear hp hm
  obtain ⟨c0, c1, c2, c3, c4⟩ := hbx.cells
  by_cases hbr : 0 ≤ b ∧ b < T.B
  · have hb0 := hbr.1
    have hb1 := hbr.2
    have HS : Hid (physS T b = (rd (physL T T.B) b, 0)) := Lib.hid (by rw [physL_at T T.B b rfl hbr, ← phys_err HW.out hbr])
    obtain ⟨nb, rfl⟩ : ∃ n : Nat, b = n := ⟨b.toNat, by omega⟩
    clear hbr
    go_enter Try.func41, Try.ntmps41
    go_wp2_with fail
    refine (rall_any T Ap cp Am cm _ HW.out hp1 hcp hm1).mono ?_
    rintro e w2 ⟨v2, rfl, hR, hb2⟩
    obtain ⟨A2, d2, rfl, hd2⟩ := ir_slice hR (n := T.B) (by rw [physL_length])
    obtain ⟨ad, rfl, hcell⟩ := ic_cell (ir_ic hR).2.2 nb (by rw [physL_length]; omega)
    have hbw := below_step hb hb2
    clear hbx hp1 hm1 c0 c1 c2 c3 c4 hR hb hb2
    go_wp2
    go_ret2
    exact ⟨by rw [HS.out] <;> rfl, hbw⟩
  · have HS : Hid (physS T b = (0, 2)) := Lib.hid (by unfold physS; rw [if_neg hbr])
    have hor : b < 0 ∨ (T.B : Int) ≤ b := by omega
    clear hbr hp1 hm1
    rcases hor with h0 | h0
    · go_enter Try.func41, Try.ntmps41
      go_wp2
      go_ret2
      exact ⟨by rw [HS.out] <;> rfl, hb⟩
    · have h1 : 0 ≤ b := by omega
      go_enter Try.func41, Try.ntmps41
      go_wp2
      go_ret2
      exact ⟨by rw [HS.out] <;> rfl, hb⟩

set_option maxRecDepth 100000 in
theorem rblock_any (T : Tab) (Ap : Option Addr) (cp : Nat) (Am : Option Addr) (cm : Nat) (w : World) (hw : WT T) (hp : IC .i64 w Ap T.P) (hcp : T.P.length ≤ cp) (hm : MRow w Am T.M) (s : Int) :
    Calls Try.prog 42 #[.agg #[.int .i64 T.B, .int .i64 T.S, .int .i64 T.u, .slice Ap T.P.length cp, .slice Am T.M.length cm], .int .i64 s] w fun e w' => e = .returned (.tuple #[.int .i64 (blockS T s).1, .bool (blockS T s).2]) ∧ Below w.heap.size w w' := by
  have q1 := hw.B
  have HF : Hid (∀ k : Nat, k < T.B → rd (physL T T.B) k = s → blockS T s = ((k : Int), true)) := Lib.hid (fun k hk e => block_found hw hk s e)
  have HM : Hid ((∀ j : Nat, j < T.B → rd (physL T T.B) j ≠ s) → blockS T s = (0, false)) := Lib.hid (fun hno => block_missed hw s (fun hm => by
    obtain ⟨b, hb, e⟩ := mem_physL.1 hm
    exact hno b hb (by rw [← e]; exact physL_rd T T.B b hb)))
  have HW := Lib.hid hw
  clear hw
  have hb := (Below.refl w.heap.size w).alloc (Nat.le_refl _) (.cells #[.int .i64 T.B, .int .i64 T.S, .int .i64 T.u, .slice Ap T.P.length cp, .slice Am T.M.length cm] 42)
  have hbx := RB.boxed w T Ap cp Am cm
  have hp1 := ic_below hp hb
  have hm1 := hm.below hb
  clear hp hm
  obtain ⟨c0, c1, c2, c3, c4⟩ := hbx.cells
  go_enter Try.func42, Try.ntmps42
  go_wp2_with fail
  refine (rall_any T Ap cp Am cm _ HW.out hp1 hcp hm1).mono ?_
  rintro e w2 ⟨v2, rfl, hR, hb2⟩
  obtain ⟨A2, d2, rfl, hd2⟩ := ir_slice hR (n := T.B) (by rw [physL_length])
  have hC := (ir_ic hR).2.2
  have hbw := below_step hb hb2
  clear hbx hp1 hm1 c0 c1 c2 c3 c4 hR hb hb2
  go_wp2
  go_loop [7] (fun i => ∃ k : Nat, k ≤ T.B ∧ i = .int .i64 k ∧ Hid (∀ j : Nat, j < k → rd (physL T T.B) j ≠ s)) (fun i => T.B - (intOf i).toNat)
  case atStart => exact ⟨0, by omega, rfl, Lib.hid (fun j hj => by omega)⟩
  case round =>
    obtain ⟨k, hk, rfl, hno⟩ := hrel
    by_cases hlt : k < T.B
    · obtain ⟨ad, rfl, hcell⟩ := ic_cell hC k (by rw [physL_length]; omega)
      obtain ⟨y, hy⟩ : ∃ y, rd (physL T T.B) k = y := ⟨_, rfl⟩
      rw [hy] at hcell
      by_cases he : y = s
      · have HS := Lib.hid (HF.out k hlt (hy.trans he))
        subst he
        clear hy hC
        go_wp2
        go_ret2
        exact ⟨by rw [HS.out] <;> rfl, hbw⟩
      · have ey : (y == s) = false := by simpa using he
        have HN : Hid (∀ j : Nat, j < k + 1 → rd (physL T T.B) j ≠ s) := Lib.hid (fun j hj => by
          by_cases hjk : j = k
          · subst hjk; rw [hy]; exact he
          · exact hno.out j (by omega))
        clear he hy
        go_wp2
        go_round
        case rel => exact ⟨k + 1, by omega, by go_num, HN⟩
        case measure => simp [intOf]; omega
    · obtain rfl : k = T.B := by omega
      have HS := Lib.hid (HM.out hno.out)
      go_wp2
      go_ret2
      exact ⟨by rw [HS.out] <;> rfl, hbw⟩

set_option maxRecDepth 100000 in
theorem rbad_any (T : Tab) (Ap : Option Addr) (cp : Nat) (Am : Option Addr) (cm : Nat) (w : World) (hw : WT T) (hp : IC .i64 w Ap T.P) (hcp : T.P.length ≤ cp) (hm : MRow w Am T.M) :
    Calls Try.prog 39 #[.agg #[.int .i64 T.B, .int .i64 T.S, .int .i64 T.u, .slice Ap T.P.length cp, .slice Am T.M.length cm]] w fun e w' => ∃ v, e = .returned v ∧ IR .i64 3 w' w.heap.size v (badS T) ∧ Below w.heap.size w w' := by
  have q1 := hw.B
  have q2 := hw.P
  have q3 := hw.S
  have q4 := hw.u
  have HA := Lib.hid (bad_ref hw)
  have HI := Lib.hid (badK_in T)
  have HO := Lib.hid (badK_out T)
  have HL := Lib.hid (badK_length T)
  have HW := Lib.hid hw
  clear hw
  have hb := (Below.refl w.heap.size w).alloc (Nat.le_refl _) (.cells #[.int .i64 T.B, .int .i64 T.S, .int .i64 T.u, .slice Ap T.P.length cp, .slice Am T.M.length cm] 42)
  have hbx := RB.boxed w T Ap cp Am cm
  have hp1 := ic_below hp hb
  have hm1 := hm.below hb
  clear hp hm
  have he : (w.alloc (.cells #[.int .i64 T.B, .int .i64 T.S, .int .i64 T.u, .slice Ap T.P.length cp, .slice Am T.M.length cm] 42)).heap.size = w.heap.size + 1 := by simp
  go_enter Try.func39, Try.ntmps39
  obtain ⟨c0, c1, c2, c3, c4⟩ := hbx.cells
  go_wp2_with fail
  refine (rall_any T Ap cp Am cm _ HW.out hp1 hcp hm1).mono ?_
  rintro e w2 ⟨v2, rfl, hR, hb2⟩
  obtain ⟨A2, d2, rfl, hd2⟩ := ir_slice hR (n := T.B) (by rw [physL_length])
  have hC := (ir_ic hR).2.2
  have hbx2 := hbx.below hb2
  have hbw := below_step hb hb2
  have hs2 : w.heap.size + 1 ≤ w2.heap.size := by have := hb2.size; rw [he] at this; exact this
  clear hbx hp1 hm1 c0 c1 c2 c3 c4 hR hb hb2 he
  go_wp2
  have hR0 := ir_lit w2 w2.heap.size .i64 3 [] (Nat.le_refl _) (by simp)
  have hb1 := (Below.refl w2.heap.size w2).alloc (Nat.le_refl _) (.cells #[] 3)
  go_loopw [4, 5] (fun v i wr => ∃ (k : Nat), k ≤ T.B + T.P.length + T.u ∧ i = .int .i64 k ∧ IR .i64 3 wr w2.heap.size v (badK T k) ∧ Below w2.heap.size w2 wr) (fun _ i _ => T.B + T.P.length + T.u - (intOf i).toNat)
  case atStart => exact ⟨0, by omega, rfl, hR0, hb1⟩
  clear hR0 hb1
  case round =>
    obtain ⟨k, hk, rfl, hR, hb2⟩ := hrel
    obtain ⟨c0, -, c2, c3, -⟩ := (hbx2.below hb2).cells
    by_cases hlt : k < T.B + T.P.length + T.u
    · have hC2 := ic_below hC hb2
      have hkl := HL.out k
      have hbase := hb2.size
      cases hc : (physL T T.B).contains (k : Int) with
      | true =>
        have HS := Lib.hid (HI.out k hc)
        go_wp2_with fail
        refine (rcontains_any A2 T.B d2 (physL T T.B) k _ hC2 (by rw [physL_length]) (by omega) true hc).mono ?_
        rintro e w' ⟨rfl, rfl⟩
        clear hc
        go_wp2
        go_roundw
        case rel => exact ⟨k + 1, by omega, by go_num, by rw [HS.out]; exact hR, hb2⟩
        case measure => simp [intOf]; omega
      | false =>
        have HS := Lib.hid (HO.out k hc)
        go_wp2_with fail
        refine (rcontains_any A2 T.B d2 (physL T T.B) k _ hC2 (by rw [physL_length]) (by omega) false hc).mono ?_
        rintro e w' ⟨rfl, rfl⟩
        clear hc
        go_wp2_with (at_builtin; refine ir_app1 (w0 := w2) w2.heap.size .i64 8 3 22 info_int Try.underlying22 (by decide) rfl _ _ rfl u4 (badK T k) k rfl rfl hR hb2 hbase (by omega) ?_; intro v7 w7 hR7 hb7 hg7 hat7; have HR7 := Lib.hid hR7; clear hR7 hg7 hat7)
        go_roundw
        case rel => exact ⟨k + 1, by omega, by go_num, by rw [HS.out]; exact HR7.out, hb7⟩
        case measure => simp [intOf]; omega
    · obtain rfl : k = T.B + T.P.length + T.u := by omega
      go_wp2
      go_ret
      exact ⟨_, rfl, by rw [← HA.out]; exact Kd.R_lower hR (by omega), below_step hbw hb2⟩
end Go.Proofs.Ytlifinlideiloaa
