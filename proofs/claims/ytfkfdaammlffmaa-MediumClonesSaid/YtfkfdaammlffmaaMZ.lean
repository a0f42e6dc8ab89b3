import Derived.Test.YtfkfdaammlffmaaMY
import Derived.Test.YtfkfdaammlffmaaMSR
/-! slices.Equal at rows of whole numbers; strings.Repeat. -/
namespace Go.Proofs.Ytfkfdaammlffmaa
set_option linter.unusedVariables false
set_option linter.unusedSimpArgs false
open Go.RowKit Go.Proofs
open Go.Proofs.YtfkfdaammlffmaaW.PrintWords

theorem ic_addr {k : IntKind} {w : World} {A : Option Addr} {xs : List Int} (h : IC k w A xs) (hp : 0 < xs.length) :
    ∃ b off, A = some ⟨b, off, none⟩ ∧ ∀ j, j < xs.length → w.cell? ⟨b, off + j, none⟩ = some (.int k (xs.getD j 0)) := by
  obtain ⟨ad, rfl, hc0⟩ := ic_cell h 0 hp
  have h0 : ad.add (0 : Nat) = ad := by unfold Addr.add; simp
  rw [h0] at hc0
  obtain ⟨b, off, sp⟩ := ad
  have hs : sp = none := by
    cases sp with
    | none => rfl
    | some x =>
      unfold World.cell? at hc0
      split at hc0
      · simp at hc0
      · cases hc0
  subst hs
  refine ⟨b, off, rfl, fun j hj => ?_⟩
  obtain ⟨ad, e, hc⟩ := ic_cell h j hj
  injection e with e
  subst e
  have : (Addr.add ⟨b, off, none⟩ j) = ⟨b, off + j, none⟩ := by
    unfold Addr.add; split
    · rename_i hj0; subst hj0; rfl
    · rfl
  rw [this] at hc
  rw [hc]
  simp [rd]

theorem equal_any (A B : Option Addr) (n c m d : Nat) (xs ys : List Int) (w : World) (h : IC .i64 w A xs) (h' : IC .i64 w B ys) (hn : xs.length = n) (hm : ys.length = m) :
    Calls Try.prog 16 #[.slice A n c, .slice B m d] w fun e w' => e = .returned (.bool (xs == ys)) ∧ ∃ q, w' = w.drewN q := by
  subst hn
  subst hm
  by_cases hp : 0 < xs.length
  · by_cases hq : 0 < ys.length
    · obtain ⟨b, off, rfl, hc⟩ := ic_addr h hp
      obtain ⟨b', off', rfl, hc'⟩ := ic_addr h' hq
      refine (Try.slices_Equal_int b off xs.length c b' off' ys.length d xs ys w (Nat.le_refl _) (Nat.le_refl _) (ic_max h) (ic_max h') hc hc').mono ?_
      rintro e w' ⟨rfl, hq⟩
      exact ⟨by rw [List.take_length, List.take_length], hq⟩
    · refine (Try.slices_Equal_int_lens A B xs.length c ys.length d w (by omega)).mono ?_
      rintro e w' ⟨rfl, rfl⟩
      refine ⟨?_, 0, rfl⟩
      have : xs ≠ ys := fun e => by rw [e] at hp; omega
      rw [beq_false_of_ne this]
  · obtain rfl : xs = [] := List.length_eq_zero_iff.1 (by omega)
    refine (Try.slices_Equal_int_empty A B c ys.length d w (ic_max h')).mono ?_
    rintro e w' ⟨rfl, rfl⟩
    refine ⟨?_, 0, rfl⟩
    cases ys <;> rfl
end Go.Proofs.Ytfkfdaammlffmaa
