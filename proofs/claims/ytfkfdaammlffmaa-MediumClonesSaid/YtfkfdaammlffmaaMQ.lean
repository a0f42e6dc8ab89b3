import Derived.Test.YtfkfdaammlffmaaMP
import Derived.Test.YtfkfdaammlffmaaK6
import Derived.Shelf.SlIterI.Nil
import Derived.Ground.GgzProg
/-! slices.Collect(maps.Keys(m)) at sets of whole numbers: the keys come, each once, in some order. -/
namespace Go.Proofs.Ytfkfdaammlffmaa
set_option linter.unusedVariables false
set_option linter.unusedSimpArgs false
open Go.Shelf
def Try.keysB_ren : Go.Shelf.Ren := ⟨fun | 7 => 68 | 10 => 77 | n => n, fun | 23 => 98 | 26 => 3 | 3 => 4 | 28 => 129 | 0 => 0 | 27 => 128 | 33 => 34 | 4 => 4 | n => n, fun | n => n⟩
theorem Try.keysB : Go.Proofs.SlLaysZI.n7 Try.prog Try.keysB_ren := {
  mixed := by kernel_rfl
  f7 := ⟨Try.f68.name, by decide, Try.func68.trans (congrArg some (by kernel_rfl))⟩
  f10 := ⟨Try.f77.name, by decide, Try.func77.trans (congrArg some (by kernel_rfl))⟩
  t0 := Try.underlying0
  a0 := Try.isAgg0
  z0 := Try.sizeOf0
  v0 := Try.zeroValue0
  t4 := Try.underlying4
  a4 := Try.isAgg4
  z4 := Try.sizeOf4
  v4 := Try.zeroValue4
  t23 := Try.underlying98
  a23 := Try.isAgg98
  z23 := Try.sizeOf98
  v23 := Try.zeroValue98
  t26 := Try.underlying3
  a26 := Try.isAgg3
  z26 := Try.sizeOf3
  v26 := Try.zeroValue3
  t27 := Try.underlying128
  a27 := Try.isAgg128
  z27 := Try.sizeOf128
  v27 := Try.zeroValue128
  t28 := Try.underlying129
  a28 := Try.isAgg129
  z28 := Try.sizeOf129
  v28 := Try.zeroValue129
  t33 := Try.underlying34
  a33 := Try.isAgg34
  z33 := Try.sizeOf34
  v33 := Try.zeroValue34 }
def Try.collectB_ren : Go.Shelf.Ren := ⟨fun | 8 => 67 | 11 => 76 | n => n, fun | 26 => 3 | 28 => 129 | 24 => 30 | 0 => 0 | 33 => 34 | n => n, fun | n => n⟩
theorem Try.collectB : Go.Proofs.SlLaysZI.n8 Try.prog Try.collectB_ren := {
  mixed := by kernel_rfl
  f8 := ⟨Try.f67.name, by decide, Try.func67.trans (congrArg some (by kernel_rfl))⟩
  f11 := ⟨Try.f76.name, by decide, Try.func76.trans (congrArg some (by kernel_rfl))⟩
  t0 := Try.underlying0
  a0 := Try.isAgg0
  z0 := Try.sizeOf0
  v0 := Try.zeroValue0
  t24 := Try.underlying30
  a24 := Try.isAgg30
  z24 := Try.sizeOf30
  v24 := Try.zeroValue30
  t26 := Try.underlying3
  a26 := Try.isAgg3
  z26 := Try.sizeOf3
  v26 := Try.zeroValue3
  t28 := Try.underlying129
  a28 := Try.isAgg129
  z28 := Try.sizeOf129
  v28 := Try.zeroValue129
  i26 := by kernel_rfl }

open Go.RowKit Go.Maps Go.Sort in
theorem keysB_any (mb : Option Nat) (w : World) : Calls Try.prog 68 #[.map mb] w fun e w' => e = .returned (.func (.func 77) #[] #[.pointer (some ⟨w.heap.size, 0, none⟩)]) ∧ w' = w.alloc (.cells #[.map mb] 98) :=
  (callsIn_wide (n := 5)).1 (AnyZI.keys_in Try.keysB Fence.wide 5 trivial rfl mb w)

open Go.RowKit
/-- the offsets that a map of a sector holds -/
inductive HasSet (w : World) : Option Nat → PL → Prop where
  | nil : HasSet w none []
  | set (b nn : Nat) (l : PL) (h : IS Try.prog 3 4 w b nn l) : HasSet w (some b) l
theorem HasSet.of_block {w w' : World} {er : Option Nat} {l : PL} (h : HasSet w er l) (hb : ∀ b, er = some b → w'.heap[b]? = w.heap[b]?) : HasSet w' er l := by
  cases h with
  | nil => exact .nil
  | set b nn l h => exact .set b nn l (is_of_block h (hb b rfl))
theorem HasSet.lt {w : World} {er : Option Nat} {l : PL} (h : HasSet w er l) : ∀ b, er = some b → b < w.heap.size := by
  intro b e
  cases h with
  | nil => cases e
  | set b' nn l h => cases e; exact h.lt
theorem HasSet.below {w w' : World} {er : Option Nat} {l : PL} (h : HasSet w er l) (hb : Below w.heap.size w w') : HasSet w' er l :=
  h.of_block (fun b e => hb.block b (h.lt b e))

open Go.RowKit Go.Maps Go.Sort in
set_option maxHeartbeats 1000000 in
theorem collectB_any (er : Option Nat) (l : PL) (w : World) (hown : HasSet w er l) (hmax : l.length ≤ 1000000) :
    Calls Try.prog 67 #[.func (.func 77) #[] #[.pointer (some ⟨w.heap.size, 0, none⟩)]] (w.alloc (.cells #[.map er] 98)) fun e w' => ∃ v ks, e = .returned v ∧ ks.Perm (l.map (·.1)) ∧ IR .i64 3 w' w.heap.size v ks ∧ Below w.heap.size w w' := by
  refine (callsIn_wide (n := 5)).1 ?_
  have key : ∀ (S : List Int → Prop) (N : Nat), N ≤ 1000000 → SeqGives Fence.wide 3 Try.prog 77 #[.pointer (some ⟨w.heap.size, 0, none⟩)] encZ S N (w.alloc (.cells #[.map er] 98)) → (∀ ks, S ks → ks.Perm (l.map (·.1))) →
      CallsIn Fence.wide 5 Try.prog 67 #[.func (.func 77) #[] #[.pointer (some ⟨w.heap.size, 0, none⟩)]] (w.alloc (.cells #[.map er] 98)) fun e w' => ∃ v ks, e = .returned v ∧ ks.Perm (l.map (·.1)) ∧ IR .i64 3 w' w.heap.size v ks ∧ Below w.heap.size w w' := by
    intro S N hN hseq hS
    have cS := AnyZI.collect_in Try.collectB Fence.wide 5 trivial trivial rfl (by omega) 77 #[.pointer (some ⟨w.heap.size, 0, none⟩)] trivial (enters_of Try.func77 (by kernel_rfl) rfl) S N (by unfold maxLen; omega) (by omega) _ hseq
    change CallsIn _ _ Try.prog 67 _ _ _ at cS
    refine cS.mono ?_
    rintro e w' ⟨v, ss, rfl, hp, hrow, -, hb⟩
    have hrow' : w'.ownsRow (w.alloc (.cells #[.map er] 98)).heap.size 3 1 v ss.length (ss.map (Value.int .i64)) := hrow
    have hR : IR .i64 3 w' _ v ss := Go.Proofs.YtfkfdaammlffmaaW.PrintWords.Kd.R_of_own hrow' (fun _ _ => trivial)
    exact ⟨v, ss, rfl, hS _ hp, ir_lower hR (by simp), ((Below.refl _ w).alloc (Nat.le_refl _) _).trans (hb.mono (by simp))⟩
  cases hown with
  | nil =>
    refine key (fun ss => ss = []) 0 (by omega) (AnyZI.keys_gives_nil (ρ := Try.keysB_ren) { Try.keysB with } Fence.wide _ trivial rfl w.heap.size _ (by simp) (by simp)) (fun ks h => by rw [h]; exact List.Perm.refl _)
  | set b nn l hown =>
    have hbl := hown.lt
    have hk : intKeys (MS l) = l.map (·.1) := by
      show List.map (fun p : Lit × DataW Unit => Go.intOf p.1) (List.map (fun p : Int × Int => (Lit.int .i64 p.1, (DataW.lit (Lit.bool true) : DataW Unit))) l) = _
      rw [List.map_map]
      exact List.map_congr_left (fun x _ => rfl)
    refine key (fun ss => ss.Perm (intKeys (MS l))) (Maps.size (MS l)) (by rw [MS_size]; exact hmax) (AnyZI.keys_gives (ρ := Try.keysB_ren) { Try.keysB with } Fence.wide _ trivial rfl (by omega) w.heap.size b nn (MS l) _ (by simp) (by simp) (by
      obtain ⟨es, clock, hb, Ft, hs, hD⟩ := hown
      exact ⟨es, clock, (Below.heap_alloc _ _ b hbl).trans hb, Ft, hs, hD⟩)) (fun ks h => by rw [← hk]; exact h)
end Go.Proofs.Ytfkfdaammlffmaa
