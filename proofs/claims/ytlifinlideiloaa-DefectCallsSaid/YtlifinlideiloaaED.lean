import Derived.Test.YtlifinlideiloaaEC
import Derived.Test.YtlifinlideiloaaDR
/-! The encoding of a table. -/
namespace Go.Proofs.Ytlifinlideiloaa
set_option linter.unusedVariables false
set_option linter.unusedSimpArgs false
open Go.RowKit Go.Proofs
open Go.Proofs.YtlifinlideiloaaW.PrintWords

theorem str_append (a b : List Int) : strOfNums (a ++ b) = strOfNums a ++ strOfNums b := by
  unfold strOfNums
  apply ByteArray.ext
  simp
theorem str_size (a : List Int) : (strOfNums a).size = a.length := by
  unfold strOfNums
  simp [ByteArray.size]
def twosL (xs : List Int) : List Int := xs.flatMap twoS
theorem twosL_length (xs : List Int) : (twosL xs).length = 2 * xs.length := by
  induction xs with
  | nil => rfl
  | cons x xs ih => simp only [twosL, List.flatMap_cons, List.length_append] at ih ⊢; rw [ih]; simp [twoS]; omega
theorem twosL_snoc (xs : List Int) (x : Int) : twosL (xs ++ [x]) = twosL xs ++ twoS x := by simp [twosL]

/-- a string variable in memory -/
def SV (w : World) (B : Nat) (l : List Int) : Prop := w.heap[B]? = some (.cells #[.string (strOfNums l)] 9 (0, 0))
theorem SV.cell {w : World} {B : Nat} {l : List Int} (h : SV w B l) : w.cell? ⟨B, 0, none⟩ = some (.string (strOfNums l)) ∧ w.frozen? ⟨B, 0, none⟩ = false := by
  unfold SV at h
  simp [World.cell?, World.frozen?, h]
theorem SV.set {w : World} {B : Nat} {l : List Int} (h : SV w B l) (l' : List Int) : SV (w.setCell ⟨B, 0, none⟩ (.string (strOfNums l'))) B l' := by
  unfold SV at h ⊢
  simp [World.setCell, Array.getElem?_modify, h]
theorem SV.lt {w : World} {B : Nat} {l : List Int} (h : SV w B l) : B < w.heap.size := (Array.getElem?_eq_some_iff.1 h).1
theorem SV.below {w w' : World} {B : Nat} {l : List Int} (h : SV w B l) (hb : Below w.heap.size w w') : SV w' B l := (hb.block B h.lt).trans h

set_option maxRecDepth 100000 in
theorem enc1_any (A : Option Addr) (n c : Nat) (xs : List Int) (B : Nat) (y : List Int) (w : World) (hr : IC .i64 w A xs) (hn : xs.length = n) (hx : ∀ x ∈ xs, 0 ≤ x ∧ x < 65536) (hB : SV w B y) (hAB : ∀ a, A = some a → a.block ≠ B ∧ a.block < w.heap.size) (hl : y.length + 2 * n ≤ 100000) :
    Calls Try.prog 46 #[.slice A n c, .pointer (some ⟨B, 0, none⟩)] w fun e w' => e = .returned (.tuple #[]) ∧ SV w' B (y ++ twosL xs) ∧ But B B w w' := by
  have HX := Lib.hid hx
  have HN := Lib.hid hn
  clear hx hn
  go_enter Try.func46, Try.ntmps46
  go_wp2
  go_loopw [9] (fun i wr => ∃ (k : Nat), k ≤ n ∧ i = .int .i64 k ∧ SV wr B (y ++ twosL (xs.take k)) ∧ But B B w wr) (fun i _ => n - (intOf i).toNat)
  case atStart => exact ⟨0, by omega, rfl, by simpa [twosL] using hB, But.refl _ _ _⟩
  case round =>
    obtain ⟨k, hk, rfl, hS, hbt⟩ := hrel
    by_cases hlt : k < n
    · have hkl : k < xs.length := by rw [HN.out]; exact hlt
      have hr' := ic_of_block hr (fun a e => hbt.block a.block (hAB a e).2 (hAB a e).1 (hAB a e).1)
      obtain ⟨ad, rfl, hcell⟩ := ic_cell hr' k hkl
      have hxr := HX.out _ (rd_mem hkl)
      have HT := Lib.hid (take_succ_rd xs k hkl)
      obtain ⟨x, hx⟩ : ∃ x, rd xs k = x := ⟨_, rfl⟩
      rw [hx] at hcell hxr HT
      have x0 := hxr.1
      have x1 := hxr.2
      clear hx hxr hr' hkl
      obtain ⟨z, hz⟩ : ∃ z, y ++ twosL (xs.take k) = z := ⟨_, rfl⟩
      rw [hz] at hS
      have HZ : Hid (y ++ twosL (xs.take (k + 1)) = z ++ twoS x) := Lib.hid (by rw [HT.out, twosL_snoc, ← List.append_assoc, hz])
      have HZA := Lib.hid (str_append z (twoS x))
      have hzsz : (strOfNums z).size + (strOfNums (twoS x)).size ≤ 9223372036854775807 := by
        rw [str_size, str_size, ← hz, List.length_append, twosL_length, List.length_take]; simp [twoS]; omega
      clear hz
      go_wp2_with fail
      refine (big_two x x0 x1 _).mono ?_
      rintro e w2 ⟨rfl, hb2⟩
      have hS2 := hS.below hb2
      have hbt2 := hbt.trans (But.of_below hb2)
      obtain ⟨d0, d1⟩ := hS2.cell
      clear hS hbt hb2 hcell
      go_wp2
      go_roundw
      case rel =>
        refine ⟨k + 1, by omega, by go_num, ?_, hbt2.set rfl _⟩
        rw [HZ.out, ← HZA.out]
        exact hS2.set _
      case measure => simp [intOf]; omega
    · obtain rfl : k = n := by omega
      go_wp2
      go_end0
      exact ⟨rfl, by rw [List.take_of_length_le (by rw [HN.out]; omega)] at hS; exact hS, hbt⟩
end Go.Proofs.Ytlifinlideiloaa
