import Derived.WalkKit
import Derived.WalkLawsBesides
import Derived.WalkSpells
import Derived.Handy
import Derived.Lib.Hide
import Derived.Deep.QuietTactic
import Derived.BigQuiet
import Derived.Deep.DeepCutAuto
import Derived.Deep.DeepFit
import Derived.Deep.LoopGhost
import Derived.StillTailTactics
import Derived.Deep.RegionHeld3
import Derived.Deep.RegionWith
import Derived.Laws.MakeOwn
import Derived.Lib.ConvBytes
import Derived.Deep.DeepMust
/-! Laws over any program: what the walks of this claim use beside the kit's. -/
namespace Go.Proofs.Ytfkfdaammlffmaa
set_option linter.unusedVariables false
set_option linter.unusedSimpArgs false
open Go.RowKit
section
variable {P : Program}

/-- 'a[k]' of an array by value, elements of one cell. -/
theorem run_index_arr (t e : TypeId) (n : Nat) (ht : P.underlying t = some (.array n e)) (d : TypeDesc) (he : P.underlying e = some d)
    (hd : (match d with | .struct _ | .array _ _ => true | _ => false) = false) (i : TypeInfo) (hi : P.info? e = some i) (hs : i.size = 1)
    (cs : Array Value) (kd : IntKind) (k : Nat) (hk : k < n) (v : Value) (hv : cs[k]? = some v) (w : World) :
    (Instr.index t (.agg cs) (.int kd (k : Int))).run P w = .ok v w := by
  have hagg : (isAgg e).run P w = .ok false w := by
    unfold isAgg
    rw [Sem.run_bind, run_underlying he w]
    cases d <;> simp_all
  have h0 : 0 ≤ (k : Int) ∧ (k : Int) < n := by omega
  simp [Instr.index, asIntOf, run_underlying ht, sizeOf, typeInfo, hi, hs, part, hagg, hv, h0]
  intro h; omega

theorem below_setRow {B : Nat} {w W : World} (h : Below B w W) {g : Nat} (hg : B ≤ g) (cs : Array Value) : Below B w (W.setRow g cs) :=
  ⟨h.os, h.tape, h.output, by simpa using h.size, fun i hi => (setRow_other W g i cs (by omega)).trans (h.block i hi)⟩
end
end Go.Proofs.Ytfkfdaammlffmaa
