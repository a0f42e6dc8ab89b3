import Derived.Test.YtfkfdaammlffmaaMB
import Derived.Test.YtfkfdaammlffmaaK3
/-! circ: the erased symbols of a word, collected. -/
namespace Go.Proofs.Ytfkfdaammlffmaa
set_option linter.unusedVariables false
set_option linter.unusedSimpArgs false
open Go.RowKit Go.Proofs
open Go.Proofs.YtfkfdaammlffmaaW.PrintWords

theorem But.low {t m : Nat} {a b c : World} (h : But t m a b) (k : Below a.heap.size b c) : But t m a c :=
  ⟨k.os.trans h.os, k.tape.trans h.tape, k.output.trans h.output, Nat.le_trans h.size k.size, fun i h1 h2 h3 => (k.block i h1).trans (h.block i h1 h2 h3)⟩
theorem But.cell {t m : Nat} {a b : World} (h : But t m a b) {p : Addr} {v : Value} (hc : a.cell? p = some v) (h1 : p.block ≠ t) (h2 : p.block ≠ m) : b.cell? p = some v := by
  rw [World.cell?_of_block (w := a) (h.block p.block (World.block_lt_of_cell? a p hc) h1 h2)]
  exact hc

set_option maxRecDepth 100000 in
theorem lost1_any (W0 : World) (B7 B15 g n c i fr : Nat) (x : Bool) (v : Value) (er : List Int) (w : World)
    (h7 : w.cell? ⟨B7, 0, none⟩ = some (.slice (some ⟨g, 0, none⟩) n c)) (hfr : fr < n) (hcell : w.cell? ⟨g, fr, none⟩ = some (.bool x))
    (h15 : w.heap[B15]? = some (.cells #[v] 30 (0, 0))) (hR : IR .i64 3 w W0.heap.size v er) (hB : But B15 B15 W0 w) (hlt : B15 < W0.heap.size) (hl : er.length ≤ 28) (hi : i < 28) :
    Calls Try.prog 43 #[.int .i64 i, .int .i64 fr, .pointer (some ⟨B7, 0, none⟩), .pointer (some ⟨B15, 0, none⟩)] w fun e w' => e = .returned (.tuple #[]) ∧ ∃ v', w'.heap[B15]? = some (.cells #[v'] 30 (0, 0)) ∧ IR .i64 3 w' W0.heap.size v' (if x then er ++ [(i : Int)] else er) ∧ But B15 B15 W0 w' := by
  have c15 : w.cell? ⟨B15, 0, none⟩ = some v := by simp [World.cell?, h15]
  have f15 : w.frozen? ⟨B15, 0, none⟩ = false := by simp [World.frozen?, h15]
  have hbase := hB.size
  cases x with
  | false =>
    go_enter Try.func43, Try.ntmps43
    go_wp2
    go_end0
    exact ⟨rfl, v, h15, by simpa using hR, hB⟩
  | true =>
    go_enter Try.func43, Try.ntmps43
    go_wp2_with (at_builtin; refine ir_app1 (w0 := w) W0.heap.size .i64 8 3 30 info_int Try.underlying30 (by decide) rfl _ _ rfl v er i rfl rfl hR (Below.refl _ _) hbase (by omega) ?_; intro v7 w7 hR7 hb7 hg7 hat7; have h15' := (hb7.block B15 hlt).trans h15; have c15' : w7.cell? ⟨B15, 0, none⟩ = some v := (by simp [World.cell?, h15']); have f15' : w7.frozen? ⟨B15, 0, none⟩ = false := (by simp [World.frozen?, h15']); obtain ⟨A7, c7, rfl, hc7⟩ := ir_slice hR7 (n := er.length + 1) (by simp); have HR7 := Lib.hid hR7; clear hR7 hg7 hat7)
    go_end0
    refine ⟨rfl, .slice A7 (er.length + 1) c7, by simp [World.setCell, Array.getElem?_modify, h15'], ?_, (hB.low hb7).set rfl _⟩
    refine ir_of_block HR7.out (fun k e => Below.heap_setCell _ _ _ _ ?_)
    have := Kd.R_base HR7.out k e
    show k ≠ B15
    omega

set_option maxRecDepth 100000 in
theorem collect_any (f B7 B15 g n c : Nat) (gn : List Bool) (w : World)
    (h7 : w.cell? ⟨B7, 0, none⟩ = some (.slice (some ⟨g, 0, none⟩) n c)) (hn : f + 108 < n) (hn2 : n ≤ 401600) (hcell : ∀ j, j < n → w.cell? ⟨g, j, none⟩ = some (.bool (gn.getD j false)))
    (h15 : w.heap[B15]? = some (.cells #[.slice none 0 0] 30 (0, 0))) (h7n : B7 ≠ B15) (hgn : g ≠ B15) :
    Calls Try.prog 42 #[.int .i64 f, .func (.func 43) #[] #[.pointer (some ⟨B7, 0, none⟩), .pointer (some ⟨B15, 0, none⟩)]] w fun e w' => e = .returned (.tuple #[]) ∧ ∃ v', w'.heap[B15]? = some (.cells #[v'] 30 (0, 0)) ∧ IR .i64 3 w' w.heap.size v' (erS gn f 28) ∧ But B15 B15 w w' := by
  have hlt : B15 < w.heap.size := (Array.getElem?_eq_some_iff.1 h15).1
  go_enter Try.func42, Try.ntmps42
  go_wp2
  go_loopw [5] (fun i wr => ∃ (k : Nat) (v : Value), k ≤ 28 ∧ i = .int .i64 k ∧ wr.heap[B15]? = some (.cells #[v] 30 (0, 0)) ∧ IR .i64 3 wr w.heap.size v (erS gn f k) ∧ But B15 B15 w wr) (fun i _ => 28 - (intOf i).toNat)
  case atStart => exact ⟨0, _, by omega, rfl, h15, ir_nil _ _ _ _, But.refl _ _ _⟩
  case round =>
    obtain ⟨k, v, hk, rfl, h15, hR, hB⟩ := hrel
    by_cases hlk : k < 28
    · have hl := erS_length gn f k
      have HS := Lib.hid (erS_succ gn f k)
      obtain ⟨x, hx⟩ : ∃ x, gn.getD (f + 4 * k) false = x := ⟨_, rfl⟩
      have hc := hB.cell (hcell (f + 4 * k) (by omega)) hgn hgn
      have h7' := hB.cell h7 h7n h7n
      rw [hx] at hc HS
      clear hx
      go_wp2_with fail
      refine (lost1_any w B7 B15 g n c k (f + 4 * k) x v (erS gn f k) _ h7' (by omega) hc h15 hR hB hlt (by omega) hlk).mono ?_
      rintro e w8 ⟨rfl, v', h15', hR', hB'⟩
      rw [← HS.out] at hR'
      clear h15 hR hB
      go_wp2
      go_roundw
      case rel => exact ⟨k + 1, v', by omega, by go_num, h15', hR', hB'⟩
      case measure => simp [intOf]; omega
    · obtain rfl : k = 28 := by omega
      go_wp2
      go_end0
      exact ⟨rfl, v, h15, hR, hB⟩
end Go.Proofs.Ytfkfdaammlffmaa
