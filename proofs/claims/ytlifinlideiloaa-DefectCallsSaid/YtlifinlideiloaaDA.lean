import Derived.Test.YtlifinlideiloaaSH
import Derived.Test.YtlifinlideiloaaK3
/-! The defect table in memory, and what reads it. -/
namespace Go.Proofs.Ytlifinlideiloaa
set_option linter.unusedVariables false
set_option linter.unusedSimpArgs false
open Go.RowKit
open Go.Proofs.YtlifinlideiloaaW.PrintWords

/-- blocks, spares, used, the primary defects, the moved blocks -/
structure Tab where
  B : Nat
  S : Nat
  u : Nat
  P : List Int
  M : PL

abbrev IMi (w : World) (m n : Nat) (l : PL) : Prop := IM Try.prog 3 3 .i64 w m n l
/-- the table T at block t, its map at block m -/
structure TB (w : World) (t m : Nat) (A : Option Addr) (c : Nat) (T : Tab) : Prop where
  blk : w.heap[t]? = some (.cells #[.int .i64 T.B, .int .i64 T.S, .int .i64 T.u, .slice A T.P.length c, .map (some m)] 57 (0, 0))
  row : IC .i64 w A T.P
  cap : T.P.length ≤ c
  off : ∀ a, A = some a → a.block ≠ t ∧ a.block ≠ m ∧ a.block < w.heap.size
  ne : t ≠ m
  map : IMi w m T.u T.M

theorem TB.lt {w : World} {t m : Nat} {A : Option Addr} {c : Nat} {T : Tab} (h : TB w t m A c T) : t < w.heap.size := (Array.getElem?_eq_some_iff.1 h.blk).1
theorem TB.below {w w' : World} {t m : Nat} {A : Option Addr} {c : Nat} {T : Tab} (h : TB w t m A c T) (hb : Below w.heap.size w w') : TB w' t m A c T :=
  ⟨(hb.block t h.lt).trans h.blk, ic_below h.row hb, h.cap, fun a e => ⟨(h.off a e).1, (h.off a e).2.1, Nat.lt_of_lt_of_le (h.off a e).2.2 hb.size⟩, h.ne, im_of_block h.map (hb.block m h.map.lt)⟩
theorem below_drewN {B : Nat} {a w : World} (h : Below B a w) (q : Nat) : Below B a (w.drewN q) := pw_below_drewN h q
theorem TB.drewN {w : World} {t m : Nat} {A : Option Addr} {c : Nat} {T : Tab} (h : TB w t m A c T) (q : Nat) : TB (w.drewN q) t m A c T := h.below (below_drewN (Below.refl _ _) q)
theorem TB.cells {w : World} {t m : Nat} {A : Option Addr} {c : Nat} {T : Tab} (h : TB w t m A c T) :
    w.cell? ⟨t, 0, none⟩ = some (.int .i64 T.B) ∧ w.cell? ⟨t, 1, none⟩ = some (.int .i64 T.S) ∧ w.cell? ⟨t, 2, none⟩ = some (.int .i64 T.u) ∧ w.cell? ⟨t, 3, none⟩ = some (.slice A T.P.length c) ∧ w.cell? ⟨t, 4, none⟩ = some (.map (some m)) := by
  simp [World.cell?, h.blk]

theorem wf_i64 {i : Int} (h0 : -9223372036854775808 ≤ i) (h1 : i ≤ 9223372036854775807) : (Lit.int .i64 i).wf = true := by
  simp [Lit.wf, IntKind.min, IntKind.max, IntKind.signed, IntKind.bits]; omega
theorem zeroInt (w : World) : (zeroValue 3).run Try.prog w = .ok (.int .i64 0) w := by kernel_rfl
/-- where a block lies at home -/
def homeS : List Int → Int → Int
  | [], b => b
  | p :: l, b => homeS l (if p ≤ b then b + 1 else b)
theorem homeS_snoc (l : List Int) (p b : Int) : homeS (l ++ [p]) b = if p ≤ homeS l b then homeS l b + 1 else homeS l b := by
  induction l generalizing b with
  | nil => rfl
  | cons x l ih => exact ih _
theorem homeS_range (l : List Int) (b : Int) : b ≤ homeS l b ∧ homeS l b ≤ b + l.length := by
  induction l generalizing b with
  | nil => simp [homeS]
  | cons x l ih =>
    rw [homeS]
    simp only [List.length_cons]
    by_cases hx : x ≤ b
    · rw [if_pos hx]
      have := ih (b + 1)
      omega
    · rw [if_neg hx]
      have := ih b
      omega
theorem take_succ_rd (l : List Int) (k : Nat) (h : k < l.length) : l.take (k + 1) = l.take k ++ [rd l k] := by
  rw [List.take_add_one, List.getElem?_eq_getElem h]
  simp [rd, List.getD_eq_getElem?_getD, List.getElem?_eq_getElem h]

theorem has_any (t m : Nat) (A : Option Addr) (c : Nat) (T : Tab) (w : World) (h : TB w t m A c T) (b : Int) :
    Calls Try.prog 29 #[.pointer (some ⟨t, 0, none⟩), .int .i64 b] w fun e w' => e = .returned (.bool (decide (0 ≤ b) && decide (b < T.B))) ∧ w = w' := by
  obtain ⟨c0, -, -, -, -⟩ := h.cells
  by_cases hb : 0 ≤ b
  · go_enter Try.func29, Try.ntmps29
    go_wp2
    go_ret
    exact ⟨by simp [hb], rfl⟩
  · go_enter Try.func29, Try.ntmps29
    go_wp2
    go_ret
    exact ⟨by rw [show decide (0 ≤ b) = false by simp; omega, Bool.false_and]; rfl, rfl⟩

theorem first_any (t m : Nat) (A : Option Addr) (c : Nat) (T : Tab) (w : World) (h : TB w t m A c T) (hB : T.B ≤ 4096) (hP : T.P.length ≤ 256) :
    Calls Try.prog 30 #[.pointer (some ⟨t, 0, none⟩)] w fun e w' => e = .returned (.int .i64 ((T.B : Int) + T.P.length)) ∧ ∃ q, w' = w.drewN q := by
  obtain ⟨c0, -, -, c3, -⟩ := h.cells
  go_enter Try.func30, Try.ntmps30
  go_wp2
  go_quiet (fail)
  go_wp2
  go_ret
  exact ⟨rfl, _, rfl⟩

theorem free_any (t m : Nat) (A : Option Addr) (c : Nat) (T : Tab) (w : World) (h : TB w t m A c T) (hS : T.S ≤ 64) (hu : T.u ≤ T.S) :
    Calls Try.prog 16 #[.pointer (some ⟨t, 0, none⟩)] w fun e w' => e = .returned (.int .i64 ((T.S : Int) - T.u)) ∧ ∃ q, w' = w.drewN q := by
  obtain ⟨-, c1, c2, -, -⟩ := h.cells
  go_enter Try.func16, Try.ntmps16
  go_wp2
  go_quiet (fail)
  go_wp2
  go_ret
  exact ⟨rfl, _, rfl⟩

theorem sectors_any (t m : Nat) (A : Option Addr) (c : Nat) (T : Tab) (w : World) (h : TB w t m A c T) (hB : T.B ≤ 4096) (hP : T.P.length ≤ 256) (hS : T.S ≤ 64) :
    Calls Try.prog 12 #[.pointer (some ⟨t, 0, none⟩)] w fun e w' => e = .returned (.int .i64 ((T.B : Int) + T.P.length + T.S)) ∧ ∃ q, w' = w.drewN q := by
  obtain ⟨-, c1, -, -, -⟩ := h.cells
  go_enter Try.func12, Try.ntmps12
  go_wp2
  go_quiet ((go_at_call 30; exact Calls.quiet_of (first_any t m A c T _ (h.drewN _) hB hP)))
  go_wp2
  go_ret
  exact ⟨rfl, _, rfl⟩

theorem blocks_any (t m : Nat) (A : Option Addr) (c : Nat) (T : Tab) (w : World) (h : TB w t m A c T) :
    Calls Try.prog 24 #[.pointer (some ⟨t, 0, none⟩)] w fun e w' => e = .returned (.int .i64 T.B) ∧ w = w' := by
  obtain ⟨c0, -, -, -, -⟩ := h.cells
  go_enter Try.func24, Try.ntmps24
  go_wp2
  go_ret
  exact ⟨rfl, rfl⟩

theorem home_any (t m : Nat) (A : Option Addr) (c : Nat) (T : Tab) (w : World) (h : TB w t m A c T) (hP : T.P.length ≤ 256) (b : Int) (hb : 0 ≤ b ∧ b ≤ 4096) :
    Calls Try.prog 31 #[.pointer (some ⟨t, 0, none⟩), .int .i64 b] w fun e w' => e = .returned (.int .i64 (homeS T.P b)) ∧ w = w' := by
  obtain ⟨-, -, -, c3, -⟩ := h.cells
  have hr := h.row
  obtain ⟨P, HP⟩ : ∃ P, T.P = P := ⟨_, rfl⟩
  rw [HP] at hr c3 hP ⊢
  clear HP h
  have hb1 := hb.1
  have hb2 := hb.2
  clear hb
  go_enter Try.func31, Try.ntmps31
  go_wp2
  go_loop [1, 12] (fun v i => ∃ k : Nat, k ≤ P.length ∧ i = .int .i64 k ∧ v = .int .i64 (homeS (P.take k) b)) (fun _ i => P.length - (intOf i).toNat)
  case atStart => exact ⟨0, by omega, rfl, rfl⟩
  case round =>
    obtain ⟨k, hk, rfl, rfl⟩ := hrel
    by_cases hlt : k < P.length
    · obtain ⟨ad, rfl, hcell⟩ := ic_cell hr k hlt
      have hrg := homeS_range (P.take k) b
      rw [List.length_take, Nat.min_eq_left hk] at hrg
      have hr1 := hrg.1
      have hr2 := hrg.2
      clear hrg
      have HS : Hid (homeS (P.take (k + 1)) b = if rd P k ≤ homeS (P.take k) b then homeS (P.take k) b + 1 else homeS (P.take k) b) := Lib.hid (by rw [take_succ_rd P k hlt, homeS_snoc])
      obtain ⟨x, hx⟩ : ∃ x, x = homeS (P.take k) b := ⟨_, rfl⟩
      rw [← hx] at hr1 hr2 HS ⊢
      clear hx
      by_cases hle : rd P k ≤ x
      · replace HS : Hid (homeS (P.take (k + 1)) b = x + 1) := Lib.hid (by rw [HS.out, if_pos hle])
        go_wp2
        go_round
        case rel => exact ⟨k + 1, by omega, by go_num, by rw [HS.out]⟩
        case measure => simp [intOf]; omega
      · replace HS : Hid (homeS (P.take (k + 1)) b = x) := Lib.hid (by rw [HS.out, if_neg hle])
        go_wp2
        go_round
        case rel => exact ⟨k + 1, by omega, by go_num, by rw [HS.out]⟩
        case measure => simp [intOf]; omega
    · obtain rfl : k = P.length := by omega
      go_wp2
      go_ret
      exact ⟨rfl, rfl⟩

/-- the sector of a block, and the error -/
def physS (T : Tab) (b : Int) : Int × Int :=
  if 0 ≤ b ∧ b < T.B then (match look T.M b with | some s => (T.B : Int) + T.P.length + s | none => homeS T.P b, 0) else (0, 2)

theorem phys_any (t m : Nat) (A : Option Addr) (c : Nat) (T : Tab) (w : World) (h : TB w t m A c T) (hB : T.B ≤ 4096) (hP : T.P.length ≤ 256) (hM : ∀ x ∈ T.M, 0 ≤ x.2 ∧ x.2 ≤ 64) (b : Int) :
    Calls Try.prog 13 #[.pointer (some ⟨t, 0, none⟩), .int .i64 b] w fun e w' => e = .returned (.tuple #[.int .i64 (physS T b).1, .int .i64 (physS T b).2]) ∧ ∃ q, w' = w.drewN q := by
  obtain ⟨-, -, -, -, c4⟩ := h.cells
  by_cases hb : 0 ≤ b ∧ b < T.B
  · have e1 : (decide (0 ≤ b) && decide (b < T.B)) = true := by simp [hb.1, hb.2]
    have hb1 := hb.1
    have hb2 := hb.2
    cases hl : look T.M b with
    | none =>
      have HS : Hid (physS T b = (homeS T.P b, 0)) := Lib.hid (by unfold physS; rw [if_pos hb, hl])
      have e2 : (look T.M b).isSome = false := by rw [hl]; rfl
      clear hb hl
      go_enter Try.func13, Try.ntmps13
      go_wp2_with (first | (go_at_call 29; refine (has_any t m A c T _ h b).mono ?_; rintro e w' ⟨rfl, rfl⟩) |
        (at_lookup; refine im_look_ok _ rfl _ _ 36 rfl 3 3 .i64 Try.underlying3 Try.underlying36 Try.underlying3 (zeroInt _) m T.u T.M rfl h.map b rfl (wf_i64 (by omega) (by omega)) ?_) |
        (go_at_call 31; refine (home_any t m A c T _ h hP b ⟨by omega, by omega⟩).mono ?_; rintro e w' ⟨rfl, rfl⟩))
      go_ret2
      exact ⟨by rw [HS.out]; rfl, 0, rfl⟩
    | some s =>
      have HS : Hid (physS T b = ((T.B : Int) + T.P.length + s, 0)) := Lib.hid (by unfold physS; rw [if_pos hb, hl])
      have e2 : (look T.M b).isSome = true := by rw [hl]; rfl
      have e3 : (look T.M b).getD 0 = s := by rw [hl]; rfl
      have hs := hM _ (look_mem hl)
      have hs1 : 0 ≤ s := hs.1
      have hs2 : s ≤ 64 := hs.2
      clear hb hl hs
      go_enter Try.func13, Try.ntmps13
      go_wp2_with (first | (go_at_call 29; refine (has_any t m A c T _ h b).mono ?_; rintro e w' ⟨rfl, rfl⟩) |
        (at_lookup; refine im_look_ok _ rfl _ _ 36 rfl 3 3 .i64 Try.underlying3 Try.underlying36 Try.underlying3 (zeroInt _) m T.u T.M rfl h.map b rfl (wf_i64 (by omega) (by omega)) ?_) |
        (go_at_call 30; refine (first_any t m A c T _ h hB hP).mono ?_; rintro e w' ⟨rfl, q, rfl⟩))
      go_ret2
      exact ⟨by rw [HS.out]; rfl, _, rfl⟩
  · have HS : Hid (physS T b = (0, 2)) := Lib.hid (by unfold physS; rw [if_neg hb])
    have e1 : (decide (0 ≤ b) && decide (b < T.B)) = false := by
      by_cases h0 : 0 ≤ b
      · have : ¬ b < T.B := fun h => hb ⟨h0, h⟩
        simp [this]
      · simp [h0]
    clear hb
    go_enter Try.func13, Try.ntmps13
    go_wp2_with (first | (go_at_call 29; refine (has_any t m A c T _ h b).mono ?_; rintro e w' ⟨rfl, rfl⟩))
    go_ret2
    exact ⟨by rw [HS.out]; rfl, 0, rfl⟩
end Go.Proofs.Ytlifinlideiloaa
