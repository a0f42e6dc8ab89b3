import Derived.Test.YtfkfdaammlffmaaNM
import Derived.Test.YtfkfdaammlffmaaK8
/-! An argument that is a slice of calls, read. -/
namespace Go.Proofs.Ytfkfdaammlffmaa
set_option linter.unusedVariables false
set_option linter.unusedSimpArgs false
open Go.RowKit Go.ChangeShapes Go.WideShapes Go.ChangeAt Go.Joins
open Go.Proofs.YtfkfdaammlffmaaW.PrintWords
instance : Inhabited ActD := ⟨⟨0, 0, 0, false, none, 0, [], 0, none, 0, [], none, 0, []⟩⟩
set_option maxRecDepth 100000 in
theorem arg_acts {H : Type} {enc : TypeId × Value → H} {W : World} {base : Nat} {held : Bool} {a : Option Addr} {len cap : Nat} {d : DataW H} {ps : List MemPlace} (h : DataW.Trod enc Try.prog W base (fun _ => true) held 54 (.slice a len cap) d ps) :
    ∃ l : List ActD, len = l.length ∧ ActsAt W a l := by
  obtain ⟨fuel, hf⟩ := h
  have hf' : DataW.trod enc Try.prog W base (fun _ => true) held fuel 54 [.slice a len cap] = some (d, ps) := by simpa [Value.cells] using hf
  have ce : Try.prog.cellsOf 46 = 8 := by kernel_rfl
  have cd : Try.prog.cellsOf 44 = 3 := by kernel_rfl
  rcases Go.Deep.open_slice Try.underlying54 hf' with ⟨hcs, -⟩ | ⟨ad, len', cap', m, n, D, Pl, hcs, hb, hl, hm, hmm, -, hx⟩
  · have hv : Value.slice a len cap = .slice none 0 0 := by simpa using hcs
    injection hv with h1 h2 h3
    subst h1; subst h2
    exact ⟨[], rfl, ⟨by simp, fun j hj => absurd hj (by simp), fun a ha => (by cases ha)⟩⟩
  · have hv : Value.slice a len cap = .slice (some ad) len' cap' := by simpa using hcs
    injection hv with h1 h2 h3
    subst h1; subst h2; subst h3
    have hlm : len ≤ m := by rw [hmm]; split <;> omega
    unfold maxLen at hm
    have each : ∀ i, i < len → ∃ q : ActD, (∀ j (hj : j < 8), W.cell? (ad.add (i * 8 + j)) = some (q.cells[j]'(by simpa [ActD.cells] using hj))) ∧ ActOk W q := fun i hi => by
      obtain ⟨cs', h1, h2⟩ := hx i (by omega)
      rw [ce] at h1
      obtain ⟨_, hlen, hcell⟩ := World.cells?_some h1
      obtain ⟨xs, k, hk, hxy, _, hxl, hfld⟩ := DataW.trod_struct Try.underlying46 h2
      match xs, hxl, cs', hlen with
      | [y0, y1, y2, y3, y4, y5], _, [v0, v1, v2, v3, v4, v5, v6, v7], _ =>
        have g0 : DataW.trod enc Try.prog W base (fun _ => true) held k 3 ((List.drop 0 [v0, v1, v2, v3, v4, v5, v6, v7]).take (Try.prog.cellsOf 3)) = some y0 := hfld 0 _ rfl
        rw [show Try.prog.cellsOf 3 = 1 by kernel_rfl] at g0
        have g1 : DataW.trod enc Try.prog W base (fun _ => true) held k 3 ((List.drop 1 [v0, v1, v2, v3, v4, v5, v6, v7]).take (Try.prog.cellsOf 3)) = some y1 := hfld 1 _ rfl
        rw [show Try.prog.cellsOf 3 = 1 by kernel_rfl] at g1
        have g2 : DataW.trod enc Try.prog W base (fun _ => true) held k 3 ((List.drop 2 [v0, v1, v2, v3, v4, v5, v6, v7]).take (Try.prog.cellsOf 3)) = some y2 := hfld 2 _ rfl
        rw [show Try.prog.cellsOf 3 = 1 by kernel_rfl] at g2
        have g3 : DataW.trod enc Try.prog W base (fun _ => true) held k 4 ((List.drop 3 [v0, v1, v2, v3, v4, v5, v6, v7]).take (Try.prog.cellsOf 4)) = some y3 := hfld 3 _ rfl
        rw [show Try.prog.cellsOf 4 = 1 by kernel_rfl] at g3
        have g4 : DataW.trod enc Try.prog W base (fun _ => true) held k 22 ((List.drop 4 [v0, v1, v2, v3, v4, v5, v6, v7]).take (Try.prog.cellsOf 22)) = some y4 := hfld 4 _ rfl
        rw [show Try.prog.cellsOf 22 = 1 by kernel_rfl] at g4
        have g5 : DataW.trod enc Try.prog W base (fun _ => true) held k 44 ((List.drop 5 [v0, v1, v2, v3, v4, v5, v6, v7]).take (Try.prog.cellsOf 44)) = some y5 := hfld 5 _ rfl
        rw [show Try.prog.cellsOf 44 = 3 by kernel_rfl] at g5
        obtain ⟨i0, e0, -, -⟩ := DataW.trod_int Try.underlying3 g0
        obtain ⟨i1, e1, -, -⟩ := DataW.trod_int Try.underlying3 g1
        obtain ⟨i2, e2, -, -⟩ := DataW.trod_int Try.underlying3 g2
        obtain ⟨b3, e3, -⟩ := DataW.trod_bool Try.underlying4 g3
        obtain rfl : v0 = .int .i64 i0 := by simpa using e0
        obtain rfl : v1 = .int .i64 i1 := by simpa using e1
        obtain rfl : v2 = .int .i64 i2 := by simpa using e2
        obtain rfl : v3 = .bool b3 := by simpa using e3
        obtain ⟨sA, sl, sc, rfl, s1, s2, s3⟩ := cell_pairs Try.underlying22 Try.underlying36 (by kernel_rfl) rfl rfl (by kernel_rfl) (by kernel_rfl) Try.underlying3 Try.underlying3 g4
        obtain ⟨xs2, k2, hk2, hxy2, _, hxl2, hfld2⟩ := DataW.trod_struct Try.underlying44 g5
        match xs2, hxl2 with
        | [z0, z1, z2], _ =>
          have f0 : DataW.trod enc Try.prog W base (fun _ => true) held k2 3 ((List.drop 0 [v5, v6, v7]).take (Try.prog.cellsOf 3)) = some z0 := hfld2 0 _ rfl
          have f1 : DataW.trod enc Try.prog W base (fun _ => true) held k2 30 ((List.drop 1 [v5, v6, v7]).take (Try.prog.cellsOf 30)) = some z1 := hfld2 1 _ rfl
          have f2 : DataW.trod enc Try.prog W base (fun _ => true) held k2 42 ((List.drop 2 [v5, v6, v7]).take (Try.prog.cellsOf 42)) = some z2 := hfld2 2 _ rfl
          rw [show Try.prog.cellsOf 3 = 1 by kernel_rfl] at f0
          rw [show Try.prog.cellsOf 30 = 1 by kernel_rfl] at f1
          rw [show Try.prog.cellsOf 42 = 1 by kernel_rfl] at f2
          obtain ⟨i5, e5, -, -⟩ := DataW.trod_int Try.underlying3 f0
          obtain rfl : v5 = .int .i64 i5 := by simpa using e5
          obtain ⟨eA, el, ec, rfl, t1, t2, t3⟩ := cell_ints Try.underlying30 Try.underlying3 (by kernel_rfl) f1
          obtain ⟨cA, cl, cc, rfl, u1, u2, u3⟩ := cell_pairs Try.underlying42 Try.underlying105 (by kernel_rfl) rfl rfl (by kernel_rfl) (by kernel_rfl) Try.underlying3 Try.underlying3 f2
          refine ⟨⟨i0, i1, i2, b3, sA, sc, sl, i5, eA, ec, el, cA, cc, cl⟩, fun j hj => ?_, ⟨s1, t1, u1⟩⟩
          have hc := hcell j hj
          rw [Go.Deep.add_add] at hc
          rw [hc]
          match j, hj with
          | 0, _ => rfl
          | 1, _ => rfl
          | 2, _ => rfl
          | 3, _ => rfl
          | 4, _ => rfl
          | 5, _ => rfl
          | 6, _ => rfl
          | 7, _ => rfl
    obtain ⟨q, hq⟩ := Go.Deep.choose_lt each
    refine ⟨(List.range len).map q, by simp, ⟨by simp; omega, fun j hj => ?_, fun x hx' => ?_⟩⟩
    · have hj' : j < len := by simpa using hj
      obtain ⟨h1, -⟩ := hq j hj'
      have hsp : ad.spot = none := by
        have h0 := (hq 0 (by omega)).1 0 (by decide)
        obtain ⟨b, o, sp⟩ := ad
        cases sp with
        | none => rfl
        | some x =>
          exfalso
          have e2 : (⟨b, o, some x⟩ : Addr).add 0 = ⟨b, o, some x⟩ := by unfold Addr.add; simp
          have h0' : W.cell? ((⟨b, o, some x⟩ : Addr).add 0) = some (.int .i64 (q 0).kind) := h0
          rw [e2] at h0'
          unfold World.cell? at h0'
          split at h0'
          · simp at h0'
          · cases h0'
      obtain ⟨b, o, sp⟩ := ad
      simp only at hsp
      subst hsp
      have hcc : ∀ i (hi : i < 8), W.cell? ⟨b, o + j * 8 + i, none⟩ = some ((((List.range len).map q)[j]).cells[i]'(by simpa [ActD.cells] using hi)) := fun i hi => by
        have := h1 i hi
        rw [add_at, ← Nat.add_assoc] at this
        rw [this]
        congr 2
        simp
      refine ⟨b, o, rfl, World.block_lt_of_cell? W ⟨b, o + j * 8 + 0, none⟩ (hcc 0 (by decide)), hcc⟩
    · obtain ⟨i, hi, rfl⟩ := List.mem_map.1 hx'
      exact (hq i (List.mem_range.1 hi)).2
end Go.Proofs.Ytfkfdaammlffmaa
