import Derived.Test.YtlifinlideiloaaEA
/-! Reading a number of two bytes. -/
namespace Go.Proofs.Ytlifinlideiloaa
set_option linter.unusedVariables false
set_option linter.unusedSimpArgs false
open Go.RowKit
open Go.Proofs.YtlifinlideiloaaW.PrintWords

theorem bits_or_nat (k : IntKind) (j : Nat) (hj : j ≤ k.bits) (hk : ∀ n : Int, 0 ≤ n → n < 2 ^ j → k.wrap n = n) (a b : Nat) (ha : a < 2 ^ j) (hb : b < 2 ^ j) :
    Go.bits .or k a b = ((a ||| b : Nat) : Int) := by
  have hp : 2 ^ j ≤ 2 ^ k.bits := Nat.pow_le_pow_right (by decide) hj
  have ha' : a % 2 ^ k.bits = a := Nat.mod_eq_of_lt (Nat.lt_of_lt_of_le ha hp)
  have hb' : b % 2 ^ k.bits = b := Nat.mod_eq_of_lt (Nat.lt_of_lt_of_le hb hp)
  have cast : ∀ n : Nat, n < 2 ^ j → ((n : Nat) : Int) < 2 ^ j := fun n h => by exact_mod_cast h
  simp only [Go.bits, BitVec.ofInt_natCast, BitVec.toNat_or, BitVec.toNat_ofNat, ha', hb']
  exact hk _ (Int.natCast_nonneg _) (cast _ (Nat.or_lt_two_pow ha hb))
theorem or_nat (a b : Nat) (ha : a < 65536) (hb : b < 65536) : Go.bits .or .u64 (a : Int) (b : Int) = ((a ||| b : Nat) : Int) :=
  bits_or_nat .u64 16 (by decide) (fun n h0 h1 => by rw [IntKind.wrap_u64]; omega) a b (by omega) (by omega)
theorem or_two (a b : Nat) (ha : a < 256) (hb : b < 256) : Go.bits .or .u64 (b : Int) ((a : Int) * 256) = (a : Int) * 256 + b := by
  have h3 : b ||| a * 256 = a * 256 + b := by
    have := Nat.two_pow_add_eq_or_of_lt (i := 8) (b := b) (by omega) a
    rw [Nat.or_comm, Nat.mul_comm a 256]
    exact this.symm
  have := or_nat b (a * 256) (by omega) (by omega)
  rw [h3] at this
  simpa using this
theorem or_zero (b : Nat) (hb : b < 256) : Go.bits .or .u64 0 (b : Int) = (b : Int) := by
  have := or_nat 0 b (by omega) (by omega)
  simpa using this

theorem inside_two (s : ByteArray) (k : Nat) (hk : k + 2 ≤ s.size) (hs : s.size ≤ 1000000) (w : World) : Calls Try.prog 92 #[.string s, .int .i64 k, .int .i64 2] w fun e w' => e = .returned (.bool true) ∧ w = w' := by
  have hk1 : (k : Int) ≤ (s.size : Int) - 2 := by omega
  go_enter Try.func92, Try.ntmps92
  go_wp2
  go_ret
  exact ⟨by simp, rfl⟩

/-- the number, i bytes read -/
def rdN (a b : Nat) : Nat → Int
  | 0 => 0
  | 1 => (b : Int)
  | _ => (a : Int) * 256 + b

set_option maxRecDepth 100000 in
theorem read_two (s : ByteArray) (k : Nat) (hk : k + 2 ≤ s.size) (hs : s.size ≤ 1000000) (B : Nat) (w : World) (hc : w.cell? ⟨B, 0, none⟩ = some (.int .i64 2)) (a b : Nat) (ha : (s[k]'(by omega)).toNat = a) (hb : (s[k + 1]'(by omega)).toNat = b) :
    Calls Try.prog 80 #[.string s, .int .i64 k, .int .i64 2, .func (.func 82) #[] #[.pointer (some ⟨B, 0, none⟩)]] w fun e w' => e = .returned (.tuple #[.int .i64 ((a : Int) * 256 + b), .int .i64 0]) ∧ w = w' := by
  have ha1 : a < 256 := by rw [← ha]; exact UInt8.toNat_lt _
  have hb1 : b < 256 := by rw [← hb]; exact UInt8.toNat_lt _
  have HOR := Lib.hid (or_two a b ha1 hb1)
  have HOZ := Lib.hid (or_zero b hb1)
  go_enter Try.func80, Try.ntmps80
  go_wp2_with fail
  refine (inside_two s k hk hs _).mono ?_
  rintro e w' ⟨rfl, rfl⟩
  go_wp2
  go_loop [10, 26] (fun n i => ∃ j : Nat, j ≤ 2 ∧ i = .int .i64 j ∧ n = .int .u64 (rdN a b j)) (fun _ i => 2 - (intOf i).toNat)
  case atStart => exact ⟨0, by omega, rfl, rfl⟩
  case round =>
    obtain ⟨j, hj, rfl, rfl⟩ := hrel
    by_cases hlt : j < 2
    · rcases (by omega : j = 0 ∨ j = 1) with rfl | rfl
      · have s0 : IntKind.i64.wrap 0 = 0 := by decide
        go_wp2_with fail
        refine (down1_any 0 2 (by omega) B _ hc).mono ?_
        rintro e w' ⟨rfl, rfl⟩
        have s1 : (k : Int) + 1 < s.size := by omega
        go_wp2
        go_round
        case rel => exact ⟨1, by omega, by go_num, by rw [show rdN a b 0 = 0 from rfl, HOZ.out]; rfl⟩
        case measure => simp [intOf]
      · have s0 : IntKind.i64.wrap 8 = 8 := by decide
        go_wp2_with fail
        refine (down1_any 1 2 (by omega) B _ hc).mono ?_
        rintro e w' ⟨rfl, rfl⟩
        have s1 : (k : Int) < s.size := by omega
        go_wp2
        go_round
        case rel => exact ⟨2, by omega, by go_num, by rw [show rdN a b 1 = (b : Int) from rfl, HOR.out]; rfl⟩
        case measure => simp [intOf]
    · obtain rfl : j = 2 := by omega
      have e2 : rdN a b 2 = (a : Int) * 256 + b := rfl
      rw [e2]
      obtain ⟨z, hz⟩ : ∃ z, (a : Int) * 256 + b = z := ⟨_, rfl⟩
      have z0 : 0 ≤ z := by omega
      have z1 : z ≤ 65535 := by omega
      rw [hz]
      have HZ := Lib.hid hz
      clear hz
      go_wp2
      go_ret2
      exact ⟨by rw [HZ.out]; rfl, rfl⟩

theorem readBig_two (s : ByteArray) (k : Nat) (hk : k + 2 ≤ s.size) (hs : s.size ≤ 1000000) (w : World) (a b : Nat) (ha : (s[k]'(by omega)).toNat = a) (hb : (s[k + 1]'(by omega)).toNat = b) :
    Calls Try.prog 60 #[.string s, .int .i64 k, .int .i64 2] w fun e w' => e = .returned (.tuple #[.int .i64 ((a : Int) * 256 + b), .int .i64 0]) ∧ Below w.heap.size w w' := by
  go_enter Try.func60, Try.ntmps60
  go_wp2_with fail
  refine (down_any 2 _).mono ?_
  rintro e w' ⟨rfl, rfl⟩
  go_wp2_with fail
  refine (read_two s k hk hs w.heap.size _ (by simp) a b ha hb).mono ?_
  rintro e w2 ⟨rfl, rfl⟩
  go_wp2
  go_ret2
  exact ⟨rfl, (Below.refl _ _).alloc (Nat.le_refl _) _⟩

/-- the reader at block rb: the string and the place -/
def RS (w : World) (rb : Nat) (s : ByteArray) (k : Nat) : Prop := w.heap[rb]? = some (.cells #[.string s, .int .i64 k] 77 (0, 0))
theorem RS.cells {w : World} {rb : Nat} {s : ByteArray} {k : Nat} (h : RS w rb s k) : w.cell? ⟨rb, 0, none⟩ = some (.string s) ∧ w.cell? ⟨rb, 1, none⟩ = some (.int .i64 k) ∧ w.frozen? ⟨rb, 1, none⟩ = false := by
  unfold RS at h
  simp [World.cell?, World.frozen?, h]
theorem RS.lt {w : World} {rb : Nat} {s : ByteArray} {k : Nat} (h : RS w rb s k) : rb < w.heap.size := (Array.getElem?_eq_some_iff.1 h).1
theorem RS.below {w w' : World} {rb : Nat} {s : ByteArray} {k : Nat} (h : RS w rb s k) (hb : Below w.heap.size w w') : RS w' rb s k := (hb.block rb h.lt).trans h
theorem RS.step {w : World} {rb : Nat} {s : ByteArray} {k : Nat} (h : RS w rb s k) : RS (w.setCell ⟨rb, 1, none⟩ (.int .i64 ((k : Int) + 2))) rb s (k + 2) := by
  unfold RS at h ⊢
  simp [World.setCell, Array.getElem?_modify, h]
structure RK (w0 : World) (rb : Nat) (s : ByteArray) (k : Nat) (w : World) : Prop where
  str : RS w rb s k
  bel : Below w0.heap.size w0 w
theorem RK.move {w0 w w' : World} {rb : Nat} {s : ByteArray} {k : Nat} (h : RK w0 rb s k w) (hb : Below w.heap.size w w') : RK w0 rb s k w' := ⟨h.str.below hb, below_step h.bel hb⟩
theorem RK.drew {w0 w : World} {rb : Nat} {s : ByteArray} {k : Nat} (h : RK w0 rb s k w) : RK w0 rb s k w.drew := h.move (below_drew (Below.refl _ _))
theorem RK.all {w0 w : World} {rb : Nat} {s : ByteArray} {k : Nat} (h : RK w0 rb s k w) : w.cell? ⟨rb, 0, none⟩ = some (.string s) ∧ w.cell? ⟨rb, 1, none⟩ = some (.int .i64 k) ∧ RK w0 rb s k w := ⟨h.str.cells.1, h.str.cells.2.1, h⟩

set_option maxRecDepth 100000 in
theorem next_any (rb : Nat) (s : ByteArray) (k : Nat) (hk : k + 2 ≤ s.size) (hs : s.size ≤ 1000000) (w : World) (a b : Nat) (ha : (s[k]'(by omega)).toNat = a) (hb : (s[k + 1]'(by omega)).toNat = b) (h : RS w rb s k) :
    Calls Try.prog 45 #[.pointer (some ⟨rb, 0, none⟩)] w fun e w' => e = .returned (.int .i64 ((a : Int) * 256 + b)) ∧ RS w' rb s (k + 2) ∧ But rb rb w w' := by
  have hrk : RK w rb s k w := ⟨h, Below.refl _ _⟩
  have hsc := hrk.all
  go_enter Try.func45, Try.ntmps45
  go_wp2
  go_region_held3 (fun w' => w'.cell? ⟨rb, 0, none⟩ = some (.string s) ∧ w'.cell? ⟨rb, 1, none⟩ = some (.int .i64 k) ∧ RK w rb s k w')
    (exact RK.all (by first | assumption | (refine RK.drew ?_; assumption) | exact RK.move (RK.drew hrk) hb8))
    ((go_at_call 60; refine (readBig_two s k hk hs _ a b ha hb).mono ?_; rintro e w8 ⟨rfl, hb8⟩))
  have hrk8 := RK.move (RK.drew hrk) hb8
  obtain ⟨-, d1, f1⟩ := hrk8.str.cells
  go_wp2
  go_ret
  exact ⟨rfl, hrk8.str.step, But.set (t := rb) (p := ⟨rb, 1, none⟩) (But.of_below hrk8.bel) rfl _⟩
end Go.Proofs.Ytlifinlideiloaa
