import Derived.Test.YtlifinlideiloaaEE
import Derived.Test.YtlifinlideiloaaEF
/-! The reader's next number, by the list that the string spells. -/
namespace Go.Proofs.Ytlifinlideiloaa
set_option linter.unusedVariables false
set_option linter.unusedSimpArgs false
open Go.RowKit Go.Proofs
open Go.Proofs.YtlifinlideiloaaW.PrintWords

theorem str_at (l : List Int) (k : Nat) (h : k < l.length) (hs : k < (strOfNums l).size) : ((strOfNums l)[k]'hs) = UInt8.ofNat (l[k]).toNat := by
  show (strOfNums l).data[k] = _
  simp [strOfNums]
theorem next_num (rb : Nat) (l pre post : List Int) (x : Int) (h0 : 0 ≤ x) (h1 : x < 65536) (hl : l = pre ++ (twoS x ++ post)) (hs : l.length ≤ 1000000) (k : Nat) (hk : pre.length = k) (w : World) (h : RS w rb (strOfNums l) k) :
    Calls Try.prog 45 #[.pointer (some ⟨rb, 0, none⟩)] w fun e w' => e = .returned (.int .i64 x) ∧ RS w' rb (strOfNums l) (k + 2) ∧ But rb rb w w' := by
  have hlen : k + 2 ≤ l.length := by rw [hl, List.length_append, hk]; simp [twoS]
  have ha : l[k]'(by omega) = x / 256 := by subst hl; subst hk; simp [twoS]
  have hb : l[k + 1]'(by omega) = x % 256 := by subst hl; subst hk; simp [twoS]
  have e1 : ((strOfNums l)[k]'(by rw [str_size]; omega)).toNat = (x / 256).toNat := by
    rw [str_at l k (by omega), ha]; simp; omega
  have e2 : ((strOfNums l)[k + 1]'(by rw [str_size]; omega)).toNat = (x % 256).toNat := by
    rw [str_at l (k + 1) (by omega), hb]; simp; omega
  have := next_any rb (strOfNums l) k (by rw [str_size]; omega) (by rw [str_size]; omega) w _ _ e1 e2 h
  rw [show (((x / 256).toNat : Nat) : Int) * 256 + ((x % 256).toNat : Nat) = x by omega] at this
  exact this
end Go.Proofs.Ytlifinlideiloaa
