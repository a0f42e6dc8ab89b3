import Derived.Test.YtlifinlideiloaaDI
import Derived.Test.YtlifinlideiloaaSI
/-! Replaced. -/
namespace Go.Proofs.Ytlifinlideiloaa
set_option linter.unusedVariables false
set_option linter.unusedSimpArgs false
open Go.RowKit Go.Proofs
open Go.Proofs.YtlifinlideiloaaW.PrintWords

abbrev KdR : Kd (Int × Int) := Kd.pair (Kd.int .i64) (Kd.int .i64)
/-- a row of replacements of one's own -/
abbrev RR (w : World) (base : Nat) (v : Value) (l : PL) : Prop := KdR.R 53 w base Any v l
theorem info_repl : (Try.prog.info? 53).map (fun i => (i.zero, i.size, i.bytes)) = some (some (.agg #[.int .i64 0, .int .i64 0]), 2, 16) := by kernel_rfl

theorem keys_rd (l : PL) (k : Nat) (h : k < l.length) : rd (l.map (·.1)) k = l[k].1 := by
  unfold rd
  simp [List.getD_eq_getElem?_getD, h]
theorem take_succ_look (l : PL) (hs : Srt l) (k : Nat) (h : k < l.length) : l.take (k + 1) = l.take k ++ [(rd (l.map (·.1)) k, (look l (rd (l.map (·.1)) k)).getD 0)] := by
  have h1 : look l l[k].1 = some l[k].2 := mem_look hs (List.getElem_mem h)
  rw [keys_rd l k h, h1, List.take_add_one, List.getElem?_eq_getElem h]
  rfl

set_option maxRecDepth 100000 in
set_option maxHeartbeats 1000000 in
theorem replaced_any (t m : Nat) (A : Option Addr) (c : Nat) (T : Tab) (w : World) (h : TB w t m A c T) (hw : WT T) :
    Calls Try.prog 18 #[.pointer (some ⟨t, 0, none⟩)] w fun e w' => ∃ v, e = .returned v ∧ RR w' w.heap.size v T.M ∧ Below w.heap.size w w' := by
  have hml : T.M.length ≤ 64 := Nat.le_trans hw.len (Nat.le_trans hw.u hw.S)
  have HW := Lib.hid hw
  clear hw
  obtain ⟨-, -, -, -, c4⟩ := h.cells
  go_enter Try.func18, Try.ntmps18
  go_wp2_with fail
  refine (keysOf_any (some m) _).mono ?_
  rintro e w1 ⟨rfl, rfl⟩
  go_wp2_with fail
  refine (sortedKeys_any m T.u T.M w h.map (by omega)).mono ?_
  rintro e w2 ⟨v2, rfl, hR2, hb2⟩
  obtain ⟨n2, hn2⟩ : ∃ n, (T.M.map (·.1)).length = n := ⟨_, rfl⟩
  have hn3 : T.M.length ≤ n2 := by rw [← hn2]; simp
  have hn4 : n2 ≤ T.M.length := by rw [← hn2]; simp
  obtain ⟨A2, c2, rfl, hc2⟩ := ir_slice hR2 hn2
  have hC2 := (ir_ic hR2).2.2
  have HN := Lib.hid hn2
  clear hR2 hn2 c4
  have hB2 : Below w.heap.size w w2 := hb2
  clear hb2
  go_wp2
  go_loopw [3, 13] (fun v i wr => ∃ (k : Nat), k ≤ n2 ∧ i = .int .i64 k ∧ RR wr w2.heap.size v (T.M.take k) ∧ Below w2.heap.size w2 wr) (fun _ i _ => n2 - (intOf i).toNat)
  case atStart => exact ⟨0, by omega, rfl, Kd.R_nil _ _ _ _ _, Below.refl _ _⟩
  case round =>
    obtain ⟨k, hk, rfl, hR, hb⟩ := hrel
    by_cases hlt : k < n2
    · have hT := (h.below hB2).below hb
      have hC := ic_below hC2 hb
      obtain ⟨ad2, rfl, hcell⟩ := ic_cell hC k (by rw [HN.out]; exact hlt)
      have hkl : k < T.M.length := by omega
      have hkk := HW.out.key _ (List.getElem_mem hkl)
      have hrdk := keys_rd T.M k hkl
      rw [← hrdk] at hkk
      have HTS := Lib.hid (take_succ_look T.M HW.out.msrt k hkl)
      obtain ⟨x, hx⟩ : ∃ x, rd (T.M.map (·.1)) k = x := ⟨_, rfl⟩
      rw [hx] at hcell HTS hkk
      have x1 := hkk.1
      have x2 := hkk.2
      have x3 := HW.out.B
      have htk : (T.M.take k).length ≤ 64 := by rw [List.length_take]; omega
      have hbase := hb.size
      obtain ⟨-, -, -, -, c4⟩ := hT.cells
      clear hrdk hx hkk hkl
      go_wp2_with (first | (at_lookup; refine im_look _ rfl _ _ 36 rfl 3 3 .i64 Try.underlying3 Try.underlying36 Try.underlying3 (zeroInt _) m T.u T.M rfl hT.map x rfl (wf_i64 (by omega) (by omega)) ?_) |
        (at_builtin; refine Kd.R_append KdR (w0 := w2) w2.heap.size rfl _ _ 39 53 (.agg #[.int .i64 0, .int .i64 0]) 16 rfl Try.underlying39 info_repl rfl (by decide) (by decide) u3 (T.M.take k) (x, (look T.M x).getD 0) [.int .i64 x, .int .i64 ((look T.M x).getD 0)] Any (fun _ => False) rfl rfl ⟨[_], [_], rfl, rfl, rfl⟩ (fun _ h => h.elim) (fun _ _ => trivial) hR hb hbase (by omega) ?_; intro v3 w3 hR3 hb3 hg3 hat3; have HR3 := Lib.hid hR3; clear hR3))
      go_roundw
      case rel => exact ⟨k + 1, by omega, by go_num, by rw [HTS.out]; exact HR3.out, hb3⟩
      case measure => simp [intOf]; omega
    · obtain rfl : k = n2 := by omega
      go_wp2
      go_ret
      refine ⟨_, rfl, ?_, below_step hB2 hb⟩
      rw [List.take_of_length_le hn3] at hR
      exact Kd.R_lower hR hB2.size
end Go.Proofs.Ytlifinlideiloaa
