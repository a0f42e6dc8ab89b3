import Derived.Test.YtlifinlideiloaaFD
import Derived.Test.YtlifinlideiloaaEI
import Derived.Test.YtlifinlideiloaaDK
/-! The reference's table: its lists, walked. -/
namespace Go.Proofs.Ytlifinlideiloaa
set_option linter.unusedVariables false
set_option linter.unusedSimpArgs false
open Go.RowKit Go.Proofs
open Go.Proofs.YtlifinlideiloaaW.PrintWords

theorem rcontains_any (A : Option Addr) (n c : Nat) (xs : List Int) (x : Int) (w : World) (h : IC .i64 w A xs) (hn : xs.length = n) (hl : n ≤ 1000000) (b : Bool) (hb : xs.contains x = b) :
    Calls Try.prog 55 #[.slice A n c, .int .i64 x] w fun e w' => e = .returned (.bool b) ∧ w = w' := by
  subst hn
  have HB := Lib.hid hb
  clear hb
  go_enter Try.func55, Try.ntmps55
  go_wp2
  go_loop [5] (fun i => ∃ k : Nat, k ≤ xs.length ∧ i = .int .i64 k ∧ Hid ((xs.take k).contains x = false)) (fun i => xs.length - (intOf i).toNat)
  case atStart => exact ⟨0, by omega, rfl, Lib.hid rfl⟩
  case round =>
    obtain ⟨k, hk, rfl, hno⟩ := hrel
    by_cases hlt : k < xs.length
    · obtain ⟨ad, rfl, hcell⟩ := ic_cell h k hlt
      have HT := Lib.hid (take_succ_rd xs k hlt)
      have hmem : rd xs k ∈ xs := rd_mem hlt
      obtain ⟨y, hy⟩ : ∃ y, rd xs k = y := ⟨_, rfl⟩
      rw [hy] at hcell HT hmem
      clear hy
      by_cases he : y = x
      · subst he
        have hc : xs.contains y = true := by simpa using hmem
        obtain rfl : b = true := by rw [← HB.out]; exact hc
        clear hmem hc
        go_wp2
        go_ret
        exact ⟨rfl, rfl⟩
      · have ey : (y == x) = false := by simpa using he
        have HN : Hid ((xs.take (k + 1)).contains x = false) := Lib.hid (by
          have h1 := hno.out
          rw [HT.out]
          simp only [List.contains_eq_any_beq, List.any_append] at h1 ⊢
          rw [h1]
          simp
          intro e; exact he e.symm)
        clear he hmem
        go_wp2
        go_round
        case rel => exact ⟨k + 1, by omega, by go_num, HN⟩
        case measure => simp [intOf]; omega
    · obtain rfl : k = xs.length := by omega
      rw [List.take_length] at hno
      obtain rfl : b = false := by rw [← HB.out]; exact hno.out
      go_wp2
      go_ret
      exact ⟨rfl, rfl⟩

/-- the reference's table in a block of its own -/
def RB (w : World) (g : Nat) (T : Tab) (Ap : Option Addr) (cp : Nat) (Am : Option Addr) (cm : Nat) : Prop :=
  w.heap[g]? = some (.cells #[.int .i64 T.B, .int .i64 T.S, .int .i64 T.u, .slice Ap T.P.length cp, .slice Am T.M.length cm] 42 (0, 0))
theorem RB.lt {w : World} {g : Nat} {T : Tab} {Ap : Option Addr} {cp : Nat} {Am : Option Addr} {cm : Nat} (h : RB w g T Ap cp Am cm) : g < w.heap.size := (Array.getElem?_eq_some_iff.1 h).1
theorem RB.below {w w' : World} {g : Nat} {T : Tab} {Ap : Option Addr} {cp : Nat} {Am : Option Addr} {cm : Nat} (h : RB w g T Ap cp Am cm) (hb : Below w.heap.size w w') : RB w' g T Ap cp Am cm := (hb.block g h.lt).trans h
theorem RB.cells {w : World} {g : Nat} {T : Tab} {Ap : Option Addr} {cp : Nat} {Am : Option Addr} {cm : Nat} (h : RB w g T Ap cp Am cm) :
    w.cell? ⟨g, 0, none⟩ = some (.int .i64 T.B) ∧ w.cell? ⟨g, 1, none⟩ = some (.int .i64 T.S) ∧ w.cell? ⟨g, 2, none⟩ = some (.int .i64 T.u) ∧ w.cell? ⟨g, 3, none⟩ = some (.slice Ap T.P.length cp) ∧ w.cell? ⟨g, 4, none⟩ = some (.slice Am T.M.length cm) := by
  have h' : w.heap[g]? = some (.cells #[.int .i64 T.B, .int .i64 T.S, .int .i64 T.u, .slice Ap T.P.length cp, .slice Am T.M.length cm] 42 (0, 0)) := h
  simp [World.cell?, h']
theorem RB.boxed (w : World) (T : Tab) (Ap : Option Addr) (cp : Nat) (Am : Option Addr) (cm : Nat) : RB (w.alloc (.cells #[.int .i64 T.B, .int .i64 T.S, .int .i64 T.u, .slice Ap T.P.length cp, .slice Am T.M.length cm] 42)) w.heap.size T Ap cp Am cm := (MapKept.heap_alloc w _).1

theorem rsectors_any (T : Tab) (Ap : Option Addr) (cp : Nat) (Am : Option Addr) (cm : Nat) (w : World) (hB : T.B ≤ 4096) (hP : T.P.length ≤ 256) (hS : T.S ≤ 64) :
    Calls Try.prog 37 #[.agg #[.int .i64 T.B, .int .i64 T.S, .int .i64 T.u, .slice Ap T.P.length cp, .slice Am T.M.length cm]] w fun e w' => e = .returned (.int .i64 ((T.B : Int) + T.P.length + T.S)) ∧ Below w.heap.size w w' := by
  have hbx := RB.boxed w T Ap cp Am cm
  have hb := (Below.refl w.heap.size w).alloc (Nat.le_refl _) (.cells #[.int .i64 T.B, .int .i64 T.S, .int .i64 T.u, .slice Ap T.P.length cp, .slice Am T.M.length cm] 42)
  go_enter Try.func37, Try.ntmps37
  go_wp2
  go_ret
  exact ⟨rfl, hb⟩

set_option maxRecDepth 100000 in
theorem rhomes_any (T : Tab) (Ap : Option Addr) (cp : Nat) (Am : Option Addr) (cm : Nat) (w : World) (hw : WT T) (hp : IC .i64 w Ap T.P) (hcp : T.P.length ≤ cp) :
    Calls Try.prog 76 #[.agg #[.int .i64 T.B, .int .i64 T.S, .int .i64 T.u, .slice Ap T.P.length cp, .slice Am T.M.length cm]] w fun e w' => ∃ v, e = .returned v ∧ IR .i64 3 w' w.heap.size v (physL (upT T 0) T.B) ∧ Below w.heap.size w w' := by
  have q1 := hw.B
  have q2 := hw.P
  have HW := Lib.hid hw
  have HA : Hid (homesK T.P (T.B + T.P.length) = physL (upT T 0) T.B) := Lib.hid (by rw [homesK_all T.P T.B (fun p hp => (hw.rng p hp).2), physL_zero])
  have HI := Lib.hid (homesK_in T.P hw.srt)
  have HO := Lib.hid (homesK_out T.P hw.srt (fun p hp => (hw.rng p hp).1))
  have HL := Lib.hid (homesK_length T.P)
  clear hw
  have hb := (Below.refl w.heap.size w).alloc (Nat.le_refl _) (.cells #[.int .i64 T.B, .int .i64 T.S, .int .i64 T.u, .slice Ap T.P.length cp, .slice Am T.M.length cm] 42)
  have hbx := RB.boxed w T Ap cp Am cm
  have hp1 := ic_below hp hb
  have he : (w.alloc (.cells #[.int .i64 T.B, .int .i64 T.S, .int .i64 T.u, .slice Ap T.P.length cp, .slice Am T.M.length cm] 42)).heap.size = w.heap.size + 1 := by simp
  have hR0 := ir_lit (w.alloc (.cells #[.int .i64 T.B, .int .i64 T.S, .int .i64 T.u, .slice Ap T.P.length cp, .slice Am T.M.length cm] 42)) (w.alloc (.cells #[.int .i64 T.B, .int .i64 T.S, .int .i64 T.u, .slice Ap T.P.length cp, .slice Am T.M.length cm] 42)).heap.size .i64 3 [] (Nat.le_refl _) (by simp)
  have hb1 := (Below.refl (w.alloc (.cells #[.int .i64 T.B, .int .i64 T.S, .int .i64 T.u, .slice Ap T.P.length cp, .slice Am T.M.length cm] 42)).heap.size (w.alloc (.cells #[.int .i64 T.B, .int .i64 T.S, .int .i64 T.u, .slice Ap T.P.length cp, .slice Am T.M.length cm] 42))).alloc (Nat.le_refl _) (.cells #[] 3)
  go_enter Try.func76, Try.ntmps76
  go_wp2
  generalize w.alloc (.cells #[.int .i64 T.B, .int .i64 T.S, .int .i64 T.u, .slice Ap T.P.length cp, .slice Am T.M.length cm] 42) = w1 at hb hbx hp1 he hR0 hb1 ⊢
  rw [he] at hR0
  go_loopw [3, 4] (fun v i wr => ∃ (k : Nat), k ≤ T.B + T.P.length ∧ i = .int .i64 k ∧ IR .i64 3 wr (w.heap.size + 1) v (homesK T.P k) ∧ Below w1.heap.size w1 wr) (fun _ i _ => T.B + T.P.length - (intOf i).toNat)
  case atStart => exact ⟨0, by omega, rfl, by rw [show homesK T.P 0 = [] by simp [homesK]]; exact hR0, hb1⟩
  clear hR0 hb1
  case round =>
    obtain ⟨k, hk, rfl, hR, hb2⟩ := hrel
    obtain ⟨c0, -, -, c3, -⟩ := (hbx.below hb2).cells
    by_cases hlt : k < T.B + T.P.length
    · have hp2 := ic_below hp1 hb2
      have hkl := HL.out k
      have hbase := hb2.size
      have hb2' := hb2
      rw [he] at hbase hb2'
      cases hc : T.P.contains (k : Int) with
      | true =>
        have HS := Lib.hid (HI.out k hc)
        go_wp2_with fail
        refine (rcontains_any Ap T.P.length cp T.P k _ hp2 rfl (by omega) true hc).mono ?_
        rintro e w' ⟨rfl, rfl⟩
        clear hc
        go_wp2
        go_roundw
        case rel => exact ⟨k + 1, by omega, by go_num, by rw [HS.out]; exact hR, hb2⟩
        case measure => simp [intOf]; omega
      | false =>
        have HS := Lib.hid (HO.out k hc)
        go_wp2_with fail
        refine (rcontains_any Ap T.P.length cp T.P k _ hp2 rfl (by omega) false hc).mono ?_
        rintro e w' ⟨rfl, rfl⟩
        clear hc
        go_wp2_with (at_builtin; refine ir_app1 (w0 := w1) (w.heap.size + 1) .i64 8 3 22 info_int Try.underlying22 (by decide) rfl _ _ rfl u3 (homesK T.P k) k rfl rfl hR hb2' hbase (by omega) ?_; intro v7 w7 hR7 hb7 hg7 hat7; have HR7 := Lib.hid hR7; have hb8 : Below w1.heap.size w1 w7 := he.symm ▸ hb7; clear hR7 hb7 hg7 hat7)
        go_roundw
        case rel => exact ⟨k + 1, by omega, by go_num, by rw [HS.out]; exact HR7.out, hb8⟩
        case measure => simp [intOf]; omega
    · obtain rfl : k = T.B + T.P.length := by omega
      go_wp2
      go_ret
      exact ⟨_, rfl, by rw [← HA.out]; exact Kd.R_lower hR (by omega), below_step hb hb2⟩
end Go.Proofs.Ytlifinlideiloaa
