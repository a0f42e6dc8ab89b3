import Derived.Test.YtfkfdaammlffmaaMS
import Derived.Test.YtfkfdaammlffmaaWLast
/-! Scratch of a medium. -/
namespace Go.Proofs.Ytfkfdaammlffmaa
set_option linter.unusedVariables false
set_option linter.unusedSimpArgs false
open Go.RowKit Go.Proofs
open Go.MapKept (stamped_empty)
open Go.Proofs.YtfkfdaammlffmaaW.PrintWords Go.Proofs.YtfkfdaammlffmaaW.PrintLast

theorem sf_of_block {w w' : World} {base : Nat} {v : Value} {S : List Sf} (h : SfR w base v S) (hb : ∀ g, v.ownBlock = some g → w'.heap[g]? = w.heap[g]?) : SfR w' base v S := by
  obtain ⟨h1, inn, ho2, hr⟩ := h
  exact ⟨h1, inn, own_move ho2 hb, hr⟩

section
variable {P : Program} {a : Act} {w w' : World} {o : Oper}
theorem lookup_value {t : TypeId} {m x : Operand} {vm vx v : Value} (ho : o.op = .lookup t m x false) (hm : a.eval m = vm) (hx : a.eval x = vx) (hr : (Instr.lookup t vm vx false).run P w = .ok v w) : (execOp a.eval o).run P w = .ok (.value v) w := by
  unfold execOp
  simp [ho, hm, hx, hr, Result.andThen]
theorem append_value {t : TypeId} {s x : Operand} {vs vx v : Value} (ho : o.op = .call { callee := .builtin .append, args := #[s, x], argTypes := #[t, t] }) (hs : a.eval s = vs) (hx : a.eval x = vx) (hr : (Builtin.append_ #[t, t] o.type #[vs, vx]).run P w = .ok v w') : (execOp a.eval o).run P w = .ok (.value v) w' := by
  unfold execOp
  simp only [ho, resolve, invoke, builtin, Sem.run_bind, Sem.run_pure, Result.andThen_ok, List.map_toArray, List.map_cons, List.map_nil, hs, hx, hr]
theorem mapUpdate_skip {t : TypeId} {m x v : Operand} {vm vx vv : Value} (ho : o.op = .mapUpdate t m x v) (hm : a.eval m = vm) (hx : a.eval x = vx) (hv : a.eval v = vv) (hr : (Instr.mapUpdate t vm vx vv).run P w = .ok () w') : (execOp a.eval o).run P w = .ok .skip w' := by
  unfold execOp
  simp [ho, hm, hx, hv, hr, Result.andThen]
end
theorem allFit_append (l m : PL) (n : Int) : allFit (l ++ m) n = (allFit l n && allFit m n) := by unfold allFit; rw [List.all_append]

set_option maxRecDepth 100000 in
set_option maxHeartbeats 4000000 in
theorem scratchM_any2 {w : World} {base t g cap : Nat} {kd en : Int} {S : List Sf} {sv lv : Value} {l0 : PL} (h : MB w base t g cap kd en S sv lv) (hpv : PV w base sv l0) (hm0 : l0.length ≤ 256) (hl0 : allFit l0 (98 * S.length + 108) = true) (hS1 : 1 ≤ S.length) (hS : S.length ≤ 4096) (A : Option Addr) (c : Nat) (l : PL) (m : Nat) (hp : PC w A l) (hm : l.length = m) (hm2 : m ≤ 1000) (b : Bool) (hb : allFit l (98 * S.length + 108) = b) (offs : List Int) (hoffs : lostS (goneS (l0 ++ l) (98 * S.length + 108) (l0.length + m)) (98 * S.length) = offs) :
    Calls Try.prog 13 #[.pointer (some ⟨t, 0, none⟩), .slice A m c] w fun e w' =>
      (b = false ∧ e = .returned (.int .i64 1) ∧ Below w.heap.size w w') ∨
      (b = true ∧ 256 < l0.length + m ∧ e = .returned (.int .i64 7) ∧ Below w.heap.size w w') ∨
      (b = true ∧ l0.length + m ≤ 256 ∧ e = .returned (.int .i64 0) ∧ ∃ sv' lv', MB w' base t g cap kd en S sv' lv' ∧ PV w' base sv' (l0 ++ l) ∧ LM w' base lv' offs ∧ But t t w w' ∧ ∀ x, lv' = .map (some x) → w.heap.size ≤ x) := by
  obtain ⟨c0, c1, c2, c3, c4⟩ := h.cells
  have HM := Lib.hid hm
  have hz : S.length ≤ 9223372036854775807 := by omega
  have hbase : base ≤ w.heap.size := by have := h.bt; have := h.lt; omega
  obtain ⟨A0, k0, hsv, hk0, -⟩ := hpv.reads (by omega)
  subst hsv
  obtain ⟨n0, hn0⟩ : ∃ n0, l0.length = n0 := ⟨_, rfl⟩
  have HN0 := Lib.hid hn0
  rw [hn0] at c3 hk0 hm0 h hpv hoffs ⊢
  have HOFF := Lib.hid hoffs
  clear hn0 hoffs
  go_enter Try.func13, Try.ntmps13
  go_wp2_with (at_builtin; refine pv_append _ base rfl _ _ rfl (.slice A0 n0 k0) l0 l A m c (by rfl) (by rfl) hpv hp HM.out (by have := HN0.out; omega) hbase ?_; intro v1 w1 hPV1 hB1; have h1 := h.below hB1; obtain ⟨A6, c6, e6, hc6, -⟩ := hPV1.reads (by have := HM.out; have := HN0.out; simp; omega); have e6' : v1 = .slice A6 (n0 + m) c6 := (by rw [e6, List.length_append, HM.out, HN0.out]); subst e6'; clear e6; obtain ⟨d0, d1, d2, d3, d4⟩ := h1.cells)
  have hlA : (l0 ++ l).length = n0 + m := by have := HM.out; have := HN0.out; simp; omega
  have HLA := Lib.hid hlA
  rw [hlA] at hc6
  clear hlA
  refine (frames_any (98 * (S.length : Int)) (by omega) (by omega) _).mono ?_
  rintro e w2 ⟨rfl, rfl⟩
  have hbase1 := hB1.size
  go_wp2_with (at_make; refine sr_make (w0 := w1) w1.heap.size 95 info_string Try.underlying95 rfl rfl _ _ rfl (98 * (S.length : Int) + 108) rfl rfl (by omega) (by omega) (Below.refl _ _) (Nat.le_refl _) ?_; intro v3 w3 hF3 hB3 hb3; obtain ⟨gf, cf, rfl, hgf1, hgf2⟩ := sr_slice hF3 (n := 98 * S.length + 108) (by rw [List.length_replicate]; omega) (by omega))
  have hF : SC w3 (some ⟨gf, 0, none⟩) (List.replicate (98 * (S.length : Int) + 108).toNat ByteArray.empty) := by
    obtain ⟨e1, -, e3⟩ := Kd.R_reads' hF3
    exact e3
  have hP3 := Kd.C_below (Kd.C_below hp hB1) hb3
  have h3 := h1.below hb3
  have hPV3 := hPV1.below hb3
  have hB13 := below_step hB1 hb3
  clear hF3 hB3 h1 hPV1 hb3 hB1 d0 d1 d2 d3 d4
  refine (scratch_any (some ⟨gf, 0, none⟩) (98 * S.length + 108) cf _ A c l m _ (by omega) (by omega) hF (by rw [List.length_replicate]; omega) hP3 HM.out (by omega)).mono ?_
  rintro e w4 ⟨hb4, hres⟩
  have h4 := h3.below hb4
  have hPV4 := hPV3.below hb4
  have hB4 := below_step hB13 hb4
  clear h3 hPV3 hB13 hb4 hF hP3
  rcases hres with ⟨hf, rfl⟩ | ⟨hf, v5, rfl⟩
  · have hbf : b = false := by rw [← hb, ← hf]; congr 1
    go_wp2
    go_ret
    exact .inl ⟨hbf, rfl, hB4⟩
  · have hbT : b = true := by rw [← hb, ← hf]; congr 1
    have HALL : Hid (allFit (l0 ++ l) (98 * S.length + 108) = true) := Lib.hid (by rw [allFit_append, hl0, hb, hbT]; rfl)
    obtain ⟨d0, d1, d2, d3, d4⟩ := h4.cells
    by_cases hbig : 256 < n0 + m
    · have dB : decide ((256 : Int) < (n0 : Int) + (m : Int)) = true := by simpa using (show (256 : Int) < (n0 : Int) + (m : Int) by omega)
      go_wp2
      go_ret
      exact .inr (.inl ⟨hbT, hbig, rfl, hB4⟩)
    have f3 : w4.frozen? ⟨t, 3, none⟩ = false := by simp [World.frozen?, h4.blk]
    have f4 : w4.frozen? ⟨t, 4, none⟩ = false := by simp [World.frozen?, h4.blk]
    have hml : ((n0 + m : Nat) : Int) ≤ 256 := by omega
    have dB : decide ((256 : Int) < (n0 : Int) + (m : Int)) = false := by simpa using (show (n0 : Int) + (m : Int) ≤ 256 by omega)
    have hmm := @run_makeMap Try.prog
    obtain ⟨lb, hlb⟩ : ∃ lb, w4.heap.size = lb := ⟨_, rfl⟩
    have htl : t < lb := by rw [← hlb]; exact h4.lt
    have hgl : g < lb := by rw [← hlb]; exact Kd.R_lt h4.row g rfl
    obtain ⟨w5, hw5⟩ : ∃ w5, ((w4.setCell ⟨t, 3, none⟩ (.slice A6 (n0 + m) c6)).alloc (.map #[] 0)).setCell ⟨t, 4, none⟩ (.map (some lb)) = w5 := ⟨_, rfl⟩
    have hsA : (w4.setCell ⟨t, 3, none⟩ (.slice A6 (n0 + m) c6)).heap.size = lb := by simp [hlb]
    have hsB : ((w4.setCell ⟨t, 3, none⟩ (.slice A6 (n0 + m) c6)).alloc (.map #[] 0)).heap.size = lb + 1 := by simp [hlb]
    have hs5 : w5.heap.size = lb + 1 := by rw [← hw5]; simp [hlb]
    have hoth : ∀ k, k < lb → k ≠ t → w5.heap[k]? = w4.heap[k]? := fun k hk hkt => by
      rw [← hw5]
      refine (Below.heap_setCell _ _ _ _ hkt).trans ?_
      have hb := (Below.refl (w4.setCell ⟨t, 3, none⟩ (.slice A6 (n0 + m) c6)).heap.size (w4.setCell ⟨t, 3, none⟩ (.slice A6 (n0 + m) c6))).alloc (Nat.le_refl _) (.map #[] 0)
      exact (hb.block k (by rw [hsA]; exact hk)).trans (Below.heap_setCell _ _ _ _ hkt)
    have hblk5 : w5.heap[t]? = some (.cells #[.int .i64 kd, .int .i64 en, .slice (some ⟨g, 0, none⟩) S.length cap, .slice A6 (n0 + m) c6, .map (some lb)] 88 (0, 0)) := by
      have e1 : (w4.setCell ⟨t, 3, none⟩ (.slice A6 (n0 + m) c6)).heap[t]? = some (.cells #[.int .i64 kd, .int .i64 en, .slice (some ⟨g, 0, none⟩) S.length cap, .slice A6 (n0 + m) c6, lv] 88 (0, 0)) := by simp [World.setCell, Array.getElem?_modify, h4.blk]
      have hb := (Below.refl (w4.setCell ⟨t, 3, none⟩ (.slice A6 (n0 + m) c6)).heap.size (w4.setCell ⟨t, 3, none⟩ (.slice A6 (n0 + m) c6))).alloc (Nat.le_refl _) (.map #[] 0)
      have e2 := (hb.block t (by rw [hsA]; exact htl)).trans e1
      rw [← hw5]
      simp [World.setCell, Array.getElem?_modify] at e2 ⊢
      simp [e2]
    have hmap5 : w5.heap[lb]? = some (.map #[] 0) := by
      have e1 := (MapKept.heap_alloc (w4.setCell ⟨t, 3, none⟩ (.slice A6 (n0 + m) c6)) (.map #[] 0)).1
      rw [hsA] at e1
      rw [← hw5]
      exact (Below.heap_setCell _ _ _ _ (by show lb ≠ t; omega)).trans e1
    have hM5 : MB w5 base t g cap kd en S (.slice A6 (n0 + m) c6) (.map (some lb)) := ⟨hblk5, sf_of_block h4.row (fun k e => by simp [Value.ownBlock] at e; subst e; exact hoth _ hgl (Ne.symm h4.ne)), h4.ne, h4.bt⟩
    have hPV5 : PV w5 base (.slice A6 (n0 + m) c6) (l0 ++ l) := by
      refine hPV4.of_block (fun k e => ?_)
      obtain ⟨-, hk2, cur, hk3⟩ := hPV4.lt k e
      refine hoth k (by rw [← hlb]; exact hk2) (fun e2 => ?_)
      subst e2
      rw [h4.blk] at hk3
      injection hk3 with hk3
      injection hk3 with _ hk3
      cases hk3
    have hButs : But t t w w5 := by
      refine ⟨?_, ?_, ?_, ?_, fun k hk hkt _ => ?_⟩
      · rw [← hw5]; exact hB4.os
      · rw [← hw5]; exact hB4.tape
      · rw [← hw5]; exact hB4.output
      · have := hB4.size; omega
      · exact (hoth k (by have := hB4.size; omega) hkt).trans (hB4.block k hk)
    have g2 : w5.cell? ⟨t, 2, none⟩ = some (.slice (some ⟨g, 0, none⟩) S.length cap) := by simp [World.cell?, hblk5]
    have g4 : w5.cell? ⟨t, 4, none⟩ = some (.map (some lb)) := by simp [World.cell?, hblk5]
    obtain ⟨A6', c6', e6', -, hPC5⟩ := hPV5.reads (by rw [HLA.out]; omega)
    have e6a : A6' = A6 := by injection e6' with e1 e2; exact e1.symm
    subst e6a
    clear e6'
    go_wp2_with fail
    have hLO := lost_any (98 * S.length) A6' c6 (l0 ++ l) (n0 + m) w5 (by omega) (by omega) hPC5 HLA.out (by omega)
    rw [show (((98 * S.length : Nat)) : Int) = 98 * (S.length : Int) by omega] at hLO
    refine hLO.mono ?_
    rintro e w6 ⟨hb6, hres⟩
    have hM6 := hM5.below hb6
    have hPV6 := hPV5.below hb6
    rcases hres with ⟨hf2, -⟩ | ⟨-, v6, rfl, hO6⟩
    · exfalso
      rw [HALL.out] at hf2
      cases hf2
    rw [HOFF.out] at hO6
    have hrng : ∀ x ∈ offs, 0 ≤ x ∧ x < 24 * ((98 * S.length : Nat) : Int) := fun x hx => lostS_mem (by rw [HOFF.out]; exact hx)
    have hoL : offs.length ≤ 28 * (98 * S.length) := by rw [← HOFF.out]; exact lostS_length _ _
    have hmap6 : w6.heap[lb]? = some (.map #[] 0) := (hb6.block lb (by omega)).trans hmap5
    have hlt6 : lb < w6.heap.size := (Array.getElem?_eq_some_iff.1 hmap6).1
    have hBut6 : But t t w w6 := hButs.trans (But.of_below hb6)
    have hG6 : w6.ownsGroups (H := Unit) Try.prog 3 w6.heap.size 3 .i64 lb 0 (.map []) :=
      ⟨#[], 0, hmap6, ⟨by simp, stamped_empty 0, by simp⟩, Nat.le_refl _, rfl, hlt6, by simp, by simp⟩
    have hRet : ∀ (wr : World) (n : Nat) (D : DataW Unit), n ≤ 100000000 → wr.ownsGroups Try.prog 3 w6.heap.size 3 .i64 lb n D → GD D offs → But lb lb w6 wr →
        ∃ sv' lv', MB wr base t g cap kd en S sv' lv' ∧ PV wr base sv' (l0 ++ l) ∧ LM wr base lv' offs ∧ But t t w wr ∧ ∀ x, lv' = .map (some x) → w.heap.size ≤ x := by
      intro wr n D hn hG hD hbt
      have hblk : ∀ k, k < w6.heap.size → k ≠ lb → wr.heap[k]? = w6.heap[k]? := fun k hk hne => hbt.block k hk hne hne
      refine ⟨_, _, ⟨(hblk t hM6.lt (by omega)).trans hM6.blk, sf_of_block hM6.row (fun k e => ?_), hM6.ne, hM6.bt⟩, hPV6.of_block (fun k e => ?_), LM.of_groups ?_ hG hD, ?_, fun x e => (by injection e with e; injection e with e; subst e; rw [← hlb]; exact hB4.size)⟩
      · simp [Value.ownBlock] at e; subst e; exact hblk _ (Kd.R_lt hM6.row g rfl) (by omega)
      · obtain ⟨-, hk2, cur, hk3⟩ := hPV6.lt k e
        refine hblk k hk2 (fun e2 => ?_)
        subst e2
        rw [hmap6] at hk3
        cases hk3
      · have := h4.bt; omega
      · refine ⟨hbt.os.trans hBut6.os, hbt.tape.trans hBut6.tape, hbt.output.trans hBut6.output, Nat.le_trans hBut6.size hbt.size, fun k hk hkt hkt' => ?_⟩
        have hk4 : k < lb := by have := hB4.size; omega
        exact (hblk k (by have := hBut6.size; omega) (by omega)).trans (hBut6.block k hk hkt hkt')
    clear hLO hw5 hsA hsB hmap5 hblk5 hM5 hPV5 hPC5 hButs g2 g4 hoth hPV4 h4 d0 d1 d2 d3 d4 f3 f4 hf c0 c1 c2 c4
    rcases Nat.eq_zero_or_pos offs.length with hz0 | hz0
    · obtain ⟨A7, c7, hv6, -⟩ := ir_slice hO6 hz0
      subst hv6
      have hnil : offs = [] := List.eq_nil_of_length_eq_zero hz0
      go_wp2
      refine wp_loop_rounds 1 ?_
      rw [rounds_succ]
      go_wp2
      go_ret
      exact .inr (.inr ⟨hbT, by omega, rfl, hRet _ 0 _ (by omega) hG6 (by rw [hnil]; exact GD.start) (But.refl _ _ _)⟩)
    obtain ⟨g7, c7, rfl, hg7, hc7⟩ := ir_form hO6 hz0
    go_wp2
    go_loopw [68] (fun i wr => ∃ (k : Nat) (D : DataW Unit), k ≤ offs.length ∧ i = .int .i64 k ∧ wr.ownsGroups Try.prog 3 w6.heap.size 3 .i64 lb k D ∧ Hid (GD D (offs.take k)) ∧ But lb lb w6 wr) (fun i _ => offs.length - (Go.RowKit.intOf i).toNat)
    case atStart => exact ⟨0, _, by omega, rfl, hG6, Lib.hid GD.start, But.refl _ _ _⟩
    case round =>
      obtain ⟨k, D, hk, rfl, hG, hD, hbt⟩ := hrel
      by_cases hlt : k < offs.length
      · have hO7 := ir_of_block hO6 (w' := wr) (fun j e => by simp [Value.ownBlock] at e; subst e; exact hbt.block g7 (Kd.R_lt hO6 g7 rfl) (by omega) (by omega))
        obtain ⟨hcx, -⟩ := ir_cell hO7 k hlt
        obtain ⟨x, hx⟩ : ∃ x, rd offs (k : Int) = x := ⟨_, rfl⟩
        have hxm : offs[k]? = some x := by rw [← hx]; simp [rd, List.getD_eq_getElem?_getD, List.getElem?_eq_getElem hlt]
        obtain ⟨hx0, hx1⟩ := hrng x (List.mem_of_getElem? hxm)
        rw [hx] at hcx
        have hM7c : wr.cell? ⟨t, 4, none⟩ = some (.map (some lb)) := by
          have := hM6.cells.2.2.2.2
          simp only [World.cell?] at this ⊢
          rw [hbt.block t hM6.lt (by omega) (by omega)]
          exact this
        have hlb7 : lb < wr.heap.size := by have := hbt.size; omega
        have hq0 : 0 ≤ x / 2352 := by omega
        have hq1 : x / 2352 < 4096 := by omega
        have hqt : Int.tdiv x 2352 = x / 2352 := Int.tdiv_eq_ediv_of_nonneg hx0
        have hmt : Int.tmod x 2352 = x % 2352 := Int.tmod_eq_emod_of_nonneg hx0
        obtain ⟨i0, hi, hz0', hz1', hz2'⟩ := info_parts info_int
        obtain ⟨v, zs, hlk0, hat, hoi, hzl, hback⟩ := hG.at (t := 86) (E := 30) (key := .int .i64 (x / 2352)) (kl := .int .i64 (x / 2352)) (Go.Maps.int_keyed Try.underlying3) Try.underlying86 (Try.zeroValue30 _) (by unfold maxLen; omega) (Go.Maps.keyOf_int_mk Try.underlying3 (WalkArith.wf_i64 (by omega)))
        have hlk : ∀ w', w'.heap[lb]? = wr.heap[lb]? → (Instr.lookup 86 (.map (some lb)) (.int .i64 (x / 2352)) false).run Try.prog w' = .ok v w' := by
          intro w' hw'
          obtain ⟨es, clock, hb0, F, -⟩ := hG
          exact lookup_same (H := Unit) Try.underlying3 Try.underlying86 (fun u => Try.zeroValue30 u) hb0 (hw'.trans hb0) F (Go.Maps.keyOf_int_mk Try.underlying3 (WalkArith.wf_i64 (by omega))) hlk0
        have hzs : zs = lostAt (offs.take k) (x / 2352) := hD.out.at_ hoi hat
        obtain ⟨v', wA, hrunA, hown', hgrow, hnil, hloc⟩ := run_append_own_at (P := Try.prog) (wr.drew.alloc (.cells #[.int .i64 (x % 2352)] 3)) w6.heap.size 30 30 3 i0 (.int .i64 0) 1 8 Try.underlying30 hi hz0' hz1' hz2' rfl (by decide) v zs.length (zs.map (Value.int .i64)) ((hoi.1.kept (w' := wr.drew) (row := none) ⟨rfl, rfl, rfl, Nat.le_refl _, fun _ _ _ => rfl⟩ (by cases v.ownBlock <;> simp)).alloc _) ⟨wr.drew.heap.size, 0, none⟩ 1 1 [.int .i64 (x % 2352)] rfl (cell_one_new _ _ _) (by intro u hu; rw [List.mem_singleton.1 hu]; rfl) (by unfold maxLen; omega) (by omega) (by have := hbt.size; simp; omega)
        have hgrB : wr.grownBy (wr.drew.alloc (.cells #[.int .i64 (x % 2352)] 3)) v.ownBlock := ⟨rfl, rfl, rfl, by simp, fun j hj _ => Below.heap_alloc wr.drew _ j hj⟩
        have hgrA := hgrB.trans hgrow
        have hown2 : wA.ownsInts w6.heap.size 3 .i64 v' (zs ++ [x % 2352]) := hoi.appended hown' (WalkArith.wf_i64 (by omega))
        obtain ⟨w8, hrun2, hG2, hgr2⟩ := hback wA v' _ hgrA hown2 (by simp; omega) (by
          rcases hloc with h | h
          · exact .inl h
          · exact .inr ⟨_, h, by simp⟩)
        have hvb : ∀ j, v.ownBlock = some j → w6.heap.size ≤ j := fun j e => (hoi.1.lt j e).1
        have hS2 : (wr.drew.alloc (.cells #[.int .i64 (x % 2352)] 3)).cell? ⟨t, 4, none⟩ = some (.map (some lb)) ∧ (wr.drew.alloc (.cells #[.int .i64 (x % 2352)] 3)).heap[lb]? = wr.heap[lb]? :=
          ⟨(World.cell?_of_block (Below.heap_alloc wr.drew _ t (show t < wr.heap.size by have := hM6.lt; have := hbt.size; omega))).trans hM7c, Below.heap_alloc wr.drew _ lb hlb7⟩
        have hS3 : wA.cell? ⟨t, 4, none⟩ = some (.map (some lb)) ∧ wA.heap[lb]? = wr.heap[lb]? :=
          ⟨(World.cell?_of_block (hgrA.block t (by omega) (fun e => by have := hvb t e.symm; omega))).trans hM7c, hgrA.block lb hlb7 (fun e => by have := hvb lb e.symm; omega)⟩
        have hbt2 : But lb lb w6 w8 := by
          refine ⟨hgr2.os.trans (hgrA.os.trans hbt.os), hgr2.tape.trans (hgrA.tape.trans hbt.tape), hgr2.output.trans (hgrA.output.trans hbt.output), Nat.le_trans hbt.size (Nat.le_trans hgrA.size hgr2.size), fun j hj hjl _ => ?_⟩
          have h1 := hgr2.block j (by have := hbt.size; have := hgrA.size; omega) (fun e => hjl (by injection e))
          have h2 := hgrA.block j (by have := hbt.size; omega) (fun e => by have := hvb j e.symm; omega)
          exact h1.trans (h2.trans (hbt.block j hj hjl hjl))
        have hHD2 : Hid (GD (D.put (.int .i64 (x / 2352)) (rowDatum .i64 v' (zs ++ [x % 2352]))) (offs.take (k + 1))) := Lib.hid (by
          rw [hzs] at hown2 ⊢
          rw [show offs.take (k + 1) = offs.take k ++ [x] by rw [List.take_add_one, hxm]; rfl]
          exact hD.out.step x hown2)
        go_wp2
        refine start_ (n := 16) (S := fun w' => w'.cell? ⟨t, 4, none⟩ = some (.map (some lb)) ∧ w'.heap[lb]? = wr.heap[lb]?) (ds := [15]) #[false, false, false, false, false, false, false, false, false, false, false, false, false, false, false, false] (by kernel_rfl) rfl rfl ⟨hM7c, rfl⟩ (fun hHeld => ?_)
        refine pure_ (i := 0) (N := (some 74)) (v := ?_) (a' := ?_) #[true, false, false, false, false, false, false, false, false, false, false, false, false, false, false, false] rfl rfl (by kernel_rfl) (fun _ _ _ h => h) (Or.inl ⟨by rfl, ?_⟩) ?_ ?_
        rotate_left
        · intro w'
          go_simp
          with_reducible rfl
        rotate_left
        · simp only [Act.put, List.setIfInBounds_toArray, List.set_cons_zero, List.set_cons_succ, i64_w, i32_w]
          rfl
        refine pure_ (i := 1) (N := (some 75)) (v := ?_) (a' := ?_) #[true, true, false, false, false, false, false, false, false, false, false, false, false, false, false, false] rfl rfl (by kernel_rfl) (fun _ _ _ h => h) (Or.inl ⟨by rfl, ?_⟩) ?_ ?_
        rotate_left
        · intro w'
          go_simp
          with_reducible rfl
        rotate_left
        · simp only [Act.put, List.setIfInBounds_toArray, List.set_cons_zero, List.set_cons_succ, i64_w, i32_w]
          rfl
        refine pure_ (i := 2) (N := (some 76)) (v := ?_) (a' := ?_) #[true, true, true, false, false, false, false, false, false, false, false, false, false, false, false, false] rfl rfl (by kernel_rfl) (fun _ _ _ h => h) (Or.inl ⟨by rfl, ?_⟩) ?_ ?_
        rotate_left
        · intro w'
          go_simp
          with_reducible rfl
        rotate_left
        · simp only [Act.put, List.setIfInBounds_toArray, List.set_cons_zero, List.set_cons_succ, i64_w, i32_w]
          rfl
        refine pure_ (i := 4) (N := (some 78)) (v := ?_) (a' := ?_) #[true, true, true, false, true, false, false, false, false, false, false, false, false, false, false, false] rfl rfl (by kernel_rfl) (fun _ _ _ h => h) (Or.inl ⟨by rfl, ?_⟩) ?_ ?_
        rotate_left
        · intro w'
          go_simp
          with_reducible rfl
        rotate_left
        · simp only [Act.put, List.setIfInBounds_toArray, List.set_cons_zero, List.set_cons_succ, i64_w, i32_w]
          rfl
        refine pure_ (i := 5) (N := (some 79)) (v := ?_) (a' := ?_) #[true, true, true, false, true, true, false, false, false, false, false, false, false, false, false, false] rfl rfl (by kernel_rfl) (fun _ _ _ h => h) (Or.inl ⟨by rfl, ?_⟩) ?_ ?_
        rotate_left
        · intro w'
          go_simp
          with_reducible rfl
        rotate_left
        · simp only [Act.put, List.setIfInBounds_toArray, List.set_cons_zero, List.set_cons_succ, i64_w, i32_w]
          rfl
        refine pure_ (i := 6) (N := (some 80)) (v := ?_) (a' := ?_) #[true, true, true, false, true, true, true, false, false, false, false, false, false, false, false, false] rfl rfl (by kernel_rfl) (fun _ _ _ h => h) (Or.inl ⟨by rfl, ?_⟩) ?_ ?_
        rotate_left
        · intro w'
          go_simp
          with_reducible rfl
        rotate_left
        · simp only [Act.put, List.setIfInBounds_toArray, List.set_cons_zero, List.set_cons_succ, i64_w, i32_w]
          rfl
        refine pure_ (i := 7) (N := (some 81)) (v := ?_) (a' := ?_) #[true, true, true, false, true, true, true, true, false, false, false, false, false, false, false, false] rfl rfl (by kernel_rfl) (fun _ _ _ h => h) (Or.inl ⟨by rfl, ?_⟩) ?_ ?_
        rotate_left
        · intro w'
          go_simp
          with_reducible rfl
        rotate_left
        · simp only [Act.put, List.setIfInBounds_toArray, List.set_cons_zero, List.set_cons_succ, i64_w, i32_w]
          rfl
        refine pure_ (i := 9) (N := (some 83)) (v := ?_) (a' := ?_) #[true, true, true, false, true, true, true, true, false, true, false, false, false, false, false, false] rfl rfl (by kernel_rfl) (fun _ _ _ h => h) (Or.inl ⟨by rfl, ?_⟩) ?_ ?_
        rotate_left
        · intro w'
          go_simp
          with_reducible rfl
        rotate_left
        · simp only [Act.put, List.setIfInBounds_toArray, List.set_cons_zero, List.set_cons_succ, i64_w, i32_w]
          rfl
        refine pure_ (i := 11) (N := (some 85)) (v := ?_) (a' := ?_) #[true, true, true, false, true, true, true, true, false, true, false, true, false, false, false, false] rfl rfl (by kernel_rfl) (fun _ _ _ h => h) (Or.inl ⟨by rfl, ?_⟩) ?_ ?_
        rotate_left
        · intro w'
          go_simp
          with_reducible rfl
        rotate_left
        · simp only [Act.put, List.setIfInBounds_toArray, List.set_cons_zero, List.set_cons_succ, i64_w, i32_w]
          rfl
        refine pure_ (i := 12) (N := (some 86)) (v := ?_) (a' := ?_) #[true, true, true, false, true, true, true, true, false, true, false, true, true, false, false, false] rfl rfl (by kernel_rfl) (fun _ _ _ h => h) (Or.inl ⟨by rfl, ?_⟩) ?_ ?_
        rotate_left
        · intro w'
          go_simp
          with_reducible rfl
        rotate_left
        · simp only [Act.put, List.setIfInBounds_toArray, List.set_cons_zero, List.set_cons_succ, i64_w, i32_w]
          rfl
        refine take_ (i := 3) (N := (some 77)) (v := ?_) (a' := ?_) #[true, true, true, true, true, true, true, true, false, true, false, true, true, false, false, false] rfl rfl (by kernel_rfl) (fun _ _ _ h => h) (Or.inl ⟨by rfl, ?_⟩) hHeld ?_ ?_
        rotate_left
        · rintro w' ⟨s0, s1⟩
          go_simp
          with_reducible rfl
        rotate_left
        · simp only [Act.put, List.setIfInBounds_toArray, List.set_cons_zero, List.set_cons_succ, i64_w, i32_w]
          rfl
        refine take_ (i := 8) (N := (some 82)) (v := ?_) (a' := ?_) #[true, true, true, true, true, true, true, true, true, true, false, true, true, false, false, false] rfl rfl (by kernel_rfl) (fun _ _ _ h => h) (Or.inl ⟨by rfl, ?_⟩) hHeld ?_ ?_
        rotate_left
        · rintro w' ⟨s0, s1⟩
          go_simp
          with_reducible rfl
        rotate_left
        · simp only [Act.put, List.setIfInBounds_toArray, List.set_cons_zero, List.set_cons_succ, i64_w, i32_w]
          rfl
        refine take_ (i := 10) (N := (some 84)) (v := v) (a' := ?_) #[true, true, true, true, true, true, true, true, true, true, true, true, true, false, false, false] rfl rfl (by kernel_rfl) (fun _ _ _ h => h) (Or.inl ⟨by rfl, ?_⟩) hHeld ?_ ?_
        · rintro w' ⟨s0, s1⟩
          exact lookup_value (vm := .map (some lb)) (vx := .int .i64 (x / 2352)) rfl (by rfl) (by rfl) (hlk w' s1)
        rotate_left
        · simp only [Act.put, List.setIfInBounds_toArray, List.set_cons_zero, List.set_cons_succ, i64_w, i32_w]
          rfl
        refine one_ (i := 13) (N := (some 87)) #[true, true, true, true, true, true, true, true, true, true, true, true, true, true, false, false] rfl rfl (by kernel_rfl) (by decide) (fun K hK => ?_)
        refine value_ (w1 := wr.drew.alloc (.cells #[.int .i64 (x % 2352)] 3)) (v := .slice (some ⟨wr.drew.heap.size, 0, none⟩) 1 1) (by rfl) rfl ?_ ?_
        · go_simp
        refine hK.out _ _ hS2 (fun hHeld => ?_)
        clear hK K
        refine norm_ (a' := ?_) ?_ ?_
        rotate_left
        · show Act.put _ (some 87) _ = _
          simp only [Act.put, List.setIfInBounds_toArray, List.set_cons_zero, List.set_cons_succ, i64_w, i32_w]
          rfl
        refine one_ (i := 14) (N := (some 88)) #[true, true, true, true, true, true, true, true, true, true, true, true, true, true, true, false] rfl rfl (by kernel_rfl) (by decide) (fun K hK => ?_)
        refine value_ (w1 := wA) (v := v') (by rfl) rfl (append_value (vs := v) (vx := .slice (some ⟨wr.drew.heap.size, 0, none⟩) 1 1) rfl (by rfl) (by rfl) hrunA) ?_
        refine hK.out _ _ hS3 (fun hHeld => ?_)
        clear hK K
        refine norm_ (a' := ?_) ?_ ?_
        rotate_left
        · show Act.put _ (some 88) _ = _
          simp only [Act.put, List.setIfInBounds_toArray, List.set_cons_zero, List.set_cons_succ, i64_w, i32_w]
          rfl
        refine last_ (i := 15) (N := none) #[true, true, true, true, true, true, true, true, true, true, true, true, true, true, true, true] rfl rfl (by kernel_rfl) (by decide) (fun K hK => ?_)
        refine skip_ (w1 := w8) (by rfl) rfl (mapUpdate_skip (vm := .map (some lb)) (vx := .int .i64 (x / 2352)) (vv := v') rfl (by rfl) (by rfl) (by rfl) hrun2) ?_
        refine hK.out _ _ ?_
        clear hK K
        refine done_ (by kernel_rfl) ?_
        clear hHeld hS2 hS3 hrun2 hgr2 hgrA hgrow hrunA hown' hown2 hback hlk hlk0 hoi hG hD hbt hgrB hnil hloc hO7
        go_wp2
        go_roundw
        case rel => exact ⟨k + 1, _, by omega, by go_num, hG2, hHD2, hbt2⟩
        case measure => simp [Go.RowKit.intOf]; omega
      · obtain rfl : offs.length = k := by omega
        rw [List.take_length] at hD
        go_wp2
        go_ret
        exact .inr (.inr ⟨hbT, by omega, rfl, hRet _ _ _ (by omega) hG hD.out hbt⟩)
theorem scratchM_any {w : World} {base t g cap : Nat} {kd en : Int} {S : List Sf} {sv lv : Value} {l0 : PL} (h : MB w base t g cap kd en S sv lv) (hpv : PV w base sv l0) (hm0 : l0.length ≤ 256) (hl0 : allFit l0 (98 * S.length + 108) = true) (hS1 : 1 ≤ S.length) (hS : S.length ≤ 4096) (A : Option Addr) (c : Nat) (l : PL) (m : Nat) (hp : PC w A l) (hm : l.length = m) (hm2 : m ≤ 1000) (b : Bool) (hb : allFit l (98 * S.length + 108) = b) (offs : List Int) (hoffs : lostS (goneS (l0 ++ l) (98 * S.length + 108) (l0.length + m)) (98 * S.length) = offs) :
    Calls Try.prog 13 #[.pointer (some ⟨t, 0, none⟩), .slice A m c] w fun e w' =>
      (b = false ∧ e = .returned (.int .i64 1) ∧ Below w.heap.size w w') ∨
      (b = true ∧ 256 < l0.length + m ∧ e = .returned (.int .i64 7) ∧ Below w.heap.size w w') ∨
      (b = true ∧ l0.length + m ≤ 256 ∧ e = .returned (.int .i64 0) ∧ ∃ sv' lv', MB w' base t g cap kd en S sv' lv' ∧ PV w' base sv' (l0 ++ l) ∧ LM w' base lv' offs ∧ But t t w w') :=
  (scratchM_any2 h hpv hm0 hl0 hS1 hS A c l m hp hm hm2 b hb offs hoffs).mono (fun e w' hh => by
    rcases hh with h1 | h1 | ⟨h1, h2, h3, sv', lv', h4, h5, h6, h7, -⟩
    · exact .inl h1
    · exact .inr (.inl h1)
    · exact .inr (.inr ⟨h1, h2, h3, sv', lv', h4, h5, h6, h7⟩))
end Go.Proofs.Ytfkfdaammlffmaa
