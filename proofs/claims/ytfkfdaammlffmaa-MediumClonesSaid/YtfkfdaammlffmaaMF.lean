import Derived.Test.YtfkfdaammlffmaaME
/-! circ.Scratch, walked. -/
namespace Go.Proofs.Ytfkfdaammlffmaa
set_option linter.unusedVariables false
set_option linter.unusedSimpArgs false
open Go.RowKit Go.Proofs
open Go.Proofs.YtfkfdaammlffmaaW.PrintWords

theorem info_string : (Try.prog.info? 9).map (fun i => (i.zero, i.size, i.bytes)) = some (some (.string ByteArray.empty), 1, 16) := by kernel_rfl
section
variable {P : Program} {ops : Array Oper} {rest : List Oper} {o : Oper} {a : Act} {Q : Exit → Act → World → Prop}
abbrev SR (w : World) (base : Nat) (v : Value) (xs : List ByteArray) : Prop := Kd.string.R 9 w base Any v xs
abbrev SC (w : World) (A : Option Addr) (xs : List ByteArray) : Prop := Kd.string.C w A xs.length xs
theorem sr_make {w0 W : World} (base : Nat) (t : Nat) (hinfo : (P.info? 9).map (fun i => (i.zero, i.size, i.bytes)) = some (some (.string ByteArray.empty), 1, 16)) (ht : P.underlying t = some (.slice 9))
    (hgd : o.guard = none) {N : Tmp} (hd : o.dst = some N) (x y : Operand) (ho : o.op = .makeSlice t x y) (n : Int) (hx : a.eval x = .int .i64 n) (hy : a.eval y = .int .i64 n)
    (h0 : 0 ≤ n) (hl : n.toNat * 16 ≤ 281474976710656) (HB : Below base w0 W) (hbase : base ≤ W.heap.size)
    (h : ∀ v1 w1, SR w1 base v1 (List.replicate n.toNat ByteArray.empty) → Below base w0 w1 → Below W.heap.size W w1 → wpList P ops Q rest (a.put o.dst v1) w1) : wpList P ops Q (o :: rest) a W :=
  Kd.R_make Kd.string base 9 hgd hd t x y ho n hx hy ht _ 16 hinfo rfl (show 0 < 1 by decide) (by decide) ByteArray.empty (ok := Any) (okp := fun _ => False) rfl (fun _ h => h.elim) trivial h0 hl HB hbase
    (fun v1 w1 h1 h2 h3 _ => h v1 w1 h1 h2 ⟨h3.os, h3.tape, h3.output, h3.size, fun i hi => h3.block i hi (by simp)⟩)
theorem sr_append {w0 W : World} (base : Nat) (t : Nat) (hinfo : (P.info? 9).map (fun i => (i.zero, i.size, i.bytes)) = some (some (.string ByteArray.empty), 1, 16)) (ht : P.underlying t = some (.slice 9))
    (hgd : o.guard = none) (s x : Operand) (ho : o.op = .call { callee := .builtin .append, args := #[s, x], argTypes := #[t, t] })
    (v : Value) (xs ys : List ByteArray) (A : Option Addr) (n c : Nat) (hs : a.eval s = v) (hx : a.eval x = .slice A n c) (hn : ys.length = n)
    (HO : SR W base v xs) (HR : SC W A ys) (HB : Below base w0 W) (hbase : base ≤ W.heap.size) (hl : (xs.length + ys.length) * 16 ≤ 140737488355328)
    (h : ∀ v1 w1, SR w1 base v1 (xs ++ ys) → Below base w0 w1 → W.grownBy w1 v.ownBlock → wpList P ops Q rest (a.put o.dst v1) w1) : wpList P ops Q (o :: rest) a W :=
  Kd.R_append_rows Kd.string (Rr := Kd.string.K W) base hgd s x t 9 _ 16 ho ht hinfo rfl (show 0 < 1 by decide) (by decide) v xs ys A n c Any (fun _ => False) hs hx HO (by rw [← hn]; exact HR) (fun _ _ h => h) (fun _ h => h.elim) (fun _ _ => trivial) HB hbase (by rw [← hn]; exact hl)
    (fun v1 w1 h1 h2 h3 _ => h v1 w1 h1 h2 h3)
theorem sr_slice {w : World} {base : Nat} {v : Value} {xs : List ByteArray} (h : SR w base v xs) {n : Nat} (hn : xs.length = n) (hp : 0 < n) : ∃ g c, v = .slice (some ⟨g, 0, none⟩) n c ∧ base ≤ g ∧ g < w.heap.size := by
  obtain ⟨g, c, rfl, hg, hlt, -⟩ := Kd.R_form h (by omega)
  exact ⟨g, c, by rw [hn], hg, hlt⟩
theorem sr_cell {base g n cap : Nat} {w : World} {xs : List ByteArray} (h : SR w base (.slice (some ⟨g, 0, none⟩) n cap) xs) (j : Nat) (hj : j < n) :
    w.cell? ⟨g, j, none⟩ = some (.string (xs.getD j ByteArray.empty)) ∧ w.frozen? ⟨g, j, none⟩ = false := by
  have := Kd.R_celln (enc := Value.string) (h1 := fun _ => rfl) ByteArray.empty h (j : Int) (by omega) (by omega)
  simp only [Int.toNat_natCast] at this
  exact this
theorem sr_put {base g n cap : Nat} {w : World} {xs : List ByteArray} (h : SR w base (.slice (some ⟨g, 0, none⟩) n cap) xs) (j : Nat) (x : ByteArray) :
    SR (w.setCell ⟨g, j, none⟩ (.string x)) base (.slice (some ⟨g, 0, none⟩) n cap) (xs.set j x) := by
  have := Kd.R_putn (enc := Value.string) (h1 := fun _ => rfl) h (j : Int) x
  simp only [Int.toNat_natCast] at this
  exact this
theorem sr_lit0 (W : World) : SR (W.alloc (.cells #[] 9)) W.heap.size (.slice (some ⟨W.heap.size, 0, none⟩) 0 0) [] :=
  ⟨fun k hk => trivial, OwnRow.lit W W.heap.size (Reps.none _ _) (Nat.le_refl _) (by simp)⟩
end

set_option maxRecDepth 100000 in
set_option maxHeartbeats 4000000 in
theorem scratch_any (F : Option Addr) (n cf : Nat) (xs : List ByteArray) (A : Option Addr) (c : Nat) (l : PL) (m : Nat) (w : World) (h1 : 1 ≤ n) (h2 : n ≤ 401600) (hF : SC w F xs) (hxs : xs.length = n) (hp : PC w A l) (hm : l.length = m) (hm2 : m ≤ 1000) :
    Calls Try.prog 44 #[.slice F n cf, .slice A m c] w fun e w' => Below w.heap.size w w' ∧
      ((allFit l n = false ∧ e = .returned (.tuple #[.slice none 0 0, .int .i64 1])) ∨ (allFit l n = true ∧ ∃ v, e = .returned (.tuple #[v, .int .i64 0]))) := by
  have hz := zero_P
  have HM := Lib.hid hm
  have hR0 := sr_lit0 w
  have hbA : Below w.heap.size w (w.alloc (.cells #[] 9)) := (Below.refl _ _).alloc (Nat.le_refl _) _
  have hFA := Kd.C_below hF hbA
  clear hm hF
  go_enter Try.func44, Try.ntmps44
  go_wp2_with (at_builtin; refine sr_append (w0 := w) w.heap.size 95 info_string Try.underlying95 rfl _ _ rfl (.slice (some ⟨w.heap.size, 0, none⟩) 0 0) [] xs F n cf rfl rfl hxs hR0 hFA hbA (by simp) (by simp; omega) ?_; intro v1 w1 hR1 hB1 hg1; rw [List.nil_append] at hR1; obtain ⟨g, cg, rfl, hgb, hgl⟩ := sr_slice hR1 hxs (by omega); have HR1 := Lib.hid hR1; clear hR1 hg1 hR0 hbA hFA)
  go_loopw [15] (fun i wr => ∃ (k : Nat) (ys : List ByteArray), k ≤ m ∧ i = .int .i64 k ∧ SR wr w.heap.size (.slice (some ⟨g, 0, none⟩) n cg) ys ∧ Hid (ys.length = n) ∧ Hid (∀ j (h : j < l.length), j < k → fitsS (l[j]).1 (l[j]).2 n = true) ∧ Below w.heap.size w wr) (fun i _ => m - (intOf i).toNat)
  case atStart => exact ⟨0, xs, by omega, rfl, HR1.out, Lib.hid hxs, Lib.hid (fun j h hj => by omega), hB1⟩
  clear HR1 hB1 hgl
  case round =>
    obtain ⟨k, ys, hk, rfl, hR, hY, hF, hB⟩ := hrel
    by_cases hlt : k < m
    · have hkl : k < l.length := by rw [HM.out]; exact hlt
      obtain ⟨b0, o0, rfl, hb0, c0, c1⟩ := pc_cell (Kd.C_below hp hB) k hkl
      obtain ⟨xp, hxp⟩ : ∃ xp, l[k] = xp := ⟨_, rfl⟩
      rw [hxp] at c0 c1
      obtain ⟨a, cn⟩ := xp
      simp only at c0 c1
      obtain ⟨b, hbf⟩ : ∃ b, fitsS a cn (n : Int) = b := ⟨_, rfl⟩
      have HBF := Lib.hid hbf
      have HXP := Lib.hid hxp
      obtain ⟨g10, hg10⟩ : ∃ g10, wr.heap.size = g10 := ⟨_, rfl⟩
      have hs := heap_alloc_new wr (.cells #[.int .i64 0, .int .i64 0] 36)
      rw [hg10] at hs
      have hbA : Below wr.heap.size wr ((wr.alloc (.cells #[.int .i64 0, .int .i64 0] 36)).setRow g10 #[.int .i64 a, .int .i64 cn]) := below_setRow ((Below.refl _ _).alloc (Nat.le_refl _) _) (Nat.le_of_eq hg10) _
      have h10 : ((wr.alloc (.cells #[.int .i64 0, .int .i64 0] 36)).setRow g10 #[.int .i64 a, .int .i64 cn]).heap[g10]? = some (.cells #[.int .i64 a, .int .i64 cn] 36 (0, 0)) := setRow_heap _ _ _ _ _ _ hs
      have e0 : ((wr.alloc (.cells #[.int .i64 0, .int .i64 0] 36)).setRow g10 #[.int .i64 a, .int .i64 cn]).cell? ⟨g10, 0, none⟩ = some (.int .i64 a) := by simp [World.cell?, h10]
      have e1 : ((wr.alloc (.cells #[.int .i64 0, .int .i64 0] 36)).setRow g10 #[.int .i64 a, .int .i64 cn]).cell? ⟨g10, 1, none⟩ = some (.int .i64 cn) := by simp [World.cell?, h10]
      have hR1 := Kd.R_below hR hbA
      have hB1 := below_step hB hbA
      have hlt10 : g10 < ((wr.alloc (.cells #[.int .i64 0, .int .i64 0] 36)).setRow g10 #[.int .i64 a, .int .i64 cn]).heap.size := (Array.getElem?_eq_some_iff.1 h10).1
      have hgt := Kd.R_lt hR g rfl
      rw [hg10] at hgt
      clear hR hB hbA hbf hxp
      go_wp2_with (refine wpList_store_row rfl 36 _ _ rfl g10 _ rfl rfl 36 _ hs (by kernel_rfl) rfl (by kernel_rfl) ?_)
      generalize (wr.alloc (.cells #[.int .i64 0, .int .i64 0] 36)).setRow g10 #[.int .i64 a, .int .i64 cn] = wa at h10 e0 e1 hR1 hB1 hlt10 ⊢
      clear hs c0 c1
      refine (fits_any a cn (n : Int) (by omega) (by omega) _ b HBF.out).mono ?_
      rintro e y1 ⟨rfl, hy⟩
      have h10' := (hy.block g10 hlt10).trans h10
      have hR2 := Kd.R_below hR1 hy
      have hB2 := below_step hB1 hy
      clear h10 hR1 hB1 hy e0 e1 hlt10
      cases b with
      | false =>
        go_wp2
        go_ret2
        refine ⟨hB2, .inl ⟨?_, rfl⟩⟩
        unfold allFit
        cases ha : l.all (fun s => fitsS s.1 s.2 (n : Int)) with
        | false => rfl
        | true =>
          have := List.all_eq_true.1 ha _ (List.getElem_mem hkl)
          rw [HXP.out] at this
          rw [HBF.out] at this
          exact absurd this (by simp)
      | true =>
        have hff := HBF.out
        unfold fitsS at hff
        simp only [Bool.and_eq_true, decide_eq_true_eq] at hff
        obtain ⟨⟨⟨ff1, ff2⟩, ff3⟩, ff4⟩ := hff
        obtain ⟨na, rfl⟩ : ∃ na : Nat, a = na := ⟨a.toNat, by omega⟩
        obtain ⟨nc, rfl⟩ : ∃ nc : Nat, cn = nc := ⟨cn.toNat, by omega⟩
        have hgne2 : g ≠ g10 := by omega
        have e1 : y1.cell? ⟨g10, 1, none⟩ = some (.int .i64 nc) := by simp [World.cell?, h10']
        go_wp2
        go_loopw [26] (fun v wr2 => ∃ (i : Nat) (zs : List ByteArray), i ≤ nc ∧ v = .int .i64 i ∧ SR wr2 w.heap.size (.slice (some ⟨g, 0, none⟩) n cg) zs ∧ Hid (zs.length = n) ∧ But g g y1 wr2) (fun v _ => nc - (intOf v).toNat)
        case atStart => exact ⟨0, ys, by omega, rfl, hR2, hY, But.refl _ _ _⟩
        clear hR2 e1 hY
        case round =>
          obtain ⟨i, zs, hi, rfl, hR, hZ, hbt⟩ := hrel
          by_cases hli : i < nc
          · have e0 : wr.cell? ⟨g10, 0, none⟩ = some (.int .i64 na) := by simp [World.cell?, (hbt.block g10 (Array.getElem?_eq_some_iff.1 h10').1 (Ne.symm hgne2) (Ne.symm hgne2)).trans h10']
            obtain ⟨hx, hxf⟩ := sr_cell hR (na + i) (by omega)
            have hput := sr_put hR (na + i) ByteArray.empty
            have hti : ((na : Int) + i).toNat = na + i := by omega
            have hidx : (na : Int) + i < n := by omega
            go_wp2
            go_roundw
            case rel => exact ⟨i + 1, _, by omega, by go_num, hput, Lib.hid (by rw [List.length_set]; exact hZ.out), hbt.set rfl _⟩
            case measure => simp [intOf]; omega
          · obtain rfl : nc = i := by omega
            have hB3 := But.below hB2 hbt hB2.size hgb hgb
            have HF4 : Hid (∀ j (h : j < l.length), j < k + 1 → fitsS (l[j]).1 (l[j]).2 n = true) := Lib.hid (fun j h hj => by
              by_cases e : j = k
              · subst e; rw [HXP.out]; exact HBF.out
              · exact hF.out j h (by omega))
            clear hB2 hbt hF
            go_wp2
            go_roundw
            case rel => exact ⟨k + 1, zs, by omega, by go_num, hR, hZ, HF4, hB3⟩
            case measure => simp [intOf]; omega
    · obtain rfl : k = m := by omega
      have HALL : Hid (allFit l n = true) := Lib.hid (by
        unfold allFit
        rw [List.all_eq_true]
        intro s hs
        obtain ⟨j, hj, rfl⟩ := List.getElem_of_mem hs
        exact hF.out j hj (by rw [← HM.out]; exact hj))
      go_wp2
      go_ret2
      exact ⟨hB, .inr ⟨HALL.out, _, rfl⟩⟩
end Go.Proofs.Ytfkfdaammlffmaa
