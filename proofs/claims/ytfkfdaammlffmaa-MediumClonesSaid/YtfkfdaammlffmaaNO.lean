import Derived.Test.YtfkfdaammlffmaaNN
import Derived.Shelf.SlMaps.Clone
/-! Clones of maps and of rows. -/
namespace Go.Proofs.Ytfkfdaammlffmaa
set_option linter.unusedVariables false
set_option linter.unusedSimpArgs false
open Go.Shelf
def Try.cloneB_ren : Go.Shelf.Ren := ⟨fun | 5 => 58 | 7 => 73 | n => n, fun | 4 => 4 | 20 => 20 | 23 => 98 | 25 => 3 | 3 => 4 | 0 => 0 | n => n, fun | n => n⟩
theorem Try.cloneB : Go.Proofs.SlLaysW.n5 Try.prog Try.cloneB_ren := {
  mixed := by kernel_rfl
  f5 := ⟨Try.f58.name, by decide, Try.func58.trans (congrArg some (by kernel_rfl))⟩
  f7 := Try.func73.trans (congrArg some (by kernel_rfl))
  t4 := Try.underlying4
  a4 := Try.isAgg4
  z4 := Try.sizeOf4
  v4 := Try.zeroValue4
  t20 := Try.underlying20
  a20 := Try.isAgg20
  z20 := Try.sizeOf20
  v20 := Try.zeroValue20
  t23 := Try.underlying98
  a23 := Try.isAgg98
  z23 := Try.sizeOf98
  v23 := Try.zeroValue98 }
def Try.cloneY_ren : Go.Shelf.Ren := ⟨fun | 5 => 59 | 7 => 73 | n => n, fun | 4 => 4 | 20 => 20 | 23 => 99 | 25 => 3 | 3 => 5 | 0 => 0 | n => n, fun | n => n⟩
theorem Try.cloneY : Go.Proofs.SlLaysW.n5 Try.prog Try.cloneY_ren := {
  mixed := by kernel_rfl
  f5 := ⟨Try.f59.name, by decide, Try.func59.trans (congrArg some (by kernel_rfl))⟩
  f7 := Try.func73.trans (congrArg some (by kernel_rfl))
  t4 := Try.underlying4
  a4 := Try.isAgg4
  z4 := Try.sizeOf4
  v4 := Try.zeroValue4
  t20 := Try.underlying20
  a20 := Try.isAgg20
  z20 := Try.sizeOf20
  v20 := Try.zeroValue20
  t23 := Try.underlying99
  a23 := Try.isAgg99
  z23 := Try.sizeOf99
  v23 := Try.zeroValue99 }
def Try.cloneG_ren : Go.Shelf.Ren := ⟨fun | 5 => 61 | 7 => 73 | n => n, fun | 4 => 4 | 20 => 20 | 23 => 86 | 25 => 3 | 3 => 30 | 0 => 0 | n => n, fun | n => n⟩
theorem Try.cloneG : Go.Proofs.SlLaysW.n5 Try.prog Try.cloneG_ren := {
  mixed := by kernel_rfl
  f5 := ⟨Try.f61.name, by decide, Try.func61.trans (congrArg some (by kernel_rfl))⟩
  f7 := Try.func73.trans (congrArg some (by kernel_rfl))
  t4 := Try.underlying4
  a4 := Try.isAgg4
  z4 := Try.sizeOf4
  v4 := Try.zeroValue4
  t20 := Try.underlying20
  a20 := Try.isAgg20
  z20 := Try.sizeOf20
  v20 := Try.zeroValue20
  t23 := Try.underlying86
  a23 := Try.isAgg86
  z23 := Try.sizeOf86
  v23 := Try.zeroValue86 }

open Go.RowKit Go.Proofs
open Go.Proofs.YtfkfdaammlffmaaW.PrintWords
open Go.Maps Go.ChangeShapes Go.ChangeMaps Go.WideShapes
/-- a new map, or none -/
def NewB (w w' : World) (er : Option Nat) : Prop := ∀ b, er = some b → w.heap.size ≤ b ∧ b < w'.heap.size
theorem cloneSet_any (er : Option Nat) (l : PL) (w : World) (h : HasSet w er l) :
    Calls Try.prog 58 #[.map er] w fun e w' => ∃ er', e = .returned (.map er') ∧ HasSet w' er' l ∧ Below w.heap.size w w' ∧ NewB w w' er' := by
  cases h with
  | nil =>
    refine (AnyW.maps_Clone_nil Try.cloneB w).mono ?_
    rintro e w' ⟨rfl, rfl⟩
    exact ⟨none, rfl, .nil, Below.refl _ _, fun b e => by cases e⟩
  | set b nn l h =>
    refine (AnyW.maps_Clone_owns Try.cloneB 3 _ b nn _ w h).mono ?_
    rintro e w' ⟨rfl, h1, -, hb⟩
    exact ⟨some w.heap.size, rfl, .set _ nn _ h1, hb, fun b e => (by injection e with e; subst e; exact ⟨Nat.le_refl _, h1.lt⟩)⟩
theorem cloneMap_any (ch : Option Nat) (l : PL) (w : World) (h : HasMap w ch l) :
    Calls Try.prog 59 #[.map ch] w fun e w' => ∃ ch', e = .returned (.map ch') ∧ HasMap w' ch' l ∧ Below w.heap.size w w' ∧ NewB w w' ch' := by
  cases h with
  | nil =>
    refine (AnyW.maps_Clone_nil Try.cloneY w).mono ?_
    rintro e w' ⟨rfl, rfl⟩
    exact ⟨none, rfl, .nil, Below.refl _ _, fun b e => by cases e⟩
  | map b nn l h =>
    refine (AnyW.maps_Clone_owns Try.cloneY 3 _ b nn _ w h).mono ?_
    rintro e w' ⟨rfl, h1, -, hb⟩
    exact ⟨some w.heap.size, rfl, .map _ nn _ h1, hb, fun b e => (by injection e with e; subst e; exact ⟨Nat.le_refl _, h1.lt⟩)⟩
theorem cloneLost_any (lv : Value) (offs : List Int) (base : Nat) (w : World) (h : LM w base lv offs) :
    Calls Try.prog 61 #[lv] w fun e w' => ∃ lv', e = .returned lv' ∧ LM w' w.heap.size lv' offs ∧ Below w.heap.size w w' ∧ ∀ x, lv' = .map (some x) → w.heap.size ≤ x := by
  rcases h with ⟨rfl, rfl⟩ | ⟨lb, gb, es, clock, D, rfl, h1, h2, h3, h4, h5⟩
  · refine (AnyW.maps_Clone_nil Try.cloneG w).mono ?_
    rintro e w' ⟨rfl, rfl⟩
    exact ⟨_, rfl, LM.nil _ _, Below.refl _ _, fun x e => by injection e with e; cases e⟩
  · refine (AnyW.maps_Clone Try.cloneG lb es clock w h2).mono ?_
    rintro e w' ⟨rfl, rfl⟩
    have hb : Below w.heap.size w (w.alloc (.map es clock)) := (Below.refl _ _).alloc (Nat.le_refl _) _
    obtain ⟨F2, hm2⟩ := fit_move (w' := w.alloc (.map es clock)) h3 (fun g cur hh => hb.block g (Array.getElem?_eq_some_iff.1 hh).1)
    exact ⟨_, rfl, .inr ⟨w.heap.size, gb, es, clock, D, rfl, Nat.le_refl _, heap_alloc_new w _, F2, by rw [hm2]; exact h4, h5⟩, hb, fun x e => by injection e with e; injection e with e; omega⟩
theorem run_eql_slice_nil {P : Program} (w : World) (t e : TypeId) (a : Option Addr) (l c : Nat) (h : P.underlying t = some (.slice e)) : (binOp .eql t (.slice a l c) (.slice none 0 0)).run P w = .ok (.bool a.isNone) w := by
  simp only [binOp]
  simp [run_equal_slice_nil w t e a l c h]
set_option maxRecDepth 100000 in
theorem cloneSurf_any (base g cap : Nat) (S : List Sf) (w : World) (hR : SfR w base (.slice (some ⟨g, 0, none⟩) S.length cap) S) (h0 : 1 ≤ S.length) (h1 : S.length ≤ 4096) (n : Nat) (hn : S.length = n) :
    Calls Try.prog 57 #[.slice (some ⟨g, 0, none⟩) n cap] w fun e w' => ∃ g' cap', e = .returned (.slice (some ⟨g', 0, none⟩) n cap') ∧ SfR w' w.heap.size (.slice (some ⟨g', 0, none⟩) n cap') S ∧ Below w.heap.size w w' := by
  subst hn
  have hq := fun (W : World) (a : Option Addr) (l c : Nat) => run_eql_slice_nil (P := Try.prog) W 85 101 a l c Try.underlying85
  have hC := (Kd.R_reads' hR).2.2
  have hlm : (S.map Sf.tup).length = S.length := List.length_map _
  rw [hlm] at hC
  have hb : Below w.heap.size w (w.alloc (.cells #[] 101)) := (Below.refl _ _).alloc (Nat.le_refl _) _
  have hC1 := Kd.C_below hC hb
  have hR0 : KdT.R 101 (w.alloc (.cells #[] 101)) w.heap.size Any (.slice (some ⟨w.heap.size, 0, none⟩) 0 0) [] := ⟨fun k hk => trivial, OwnRow.lit w w.heap.size (Reps.none _ _) (Nat.le_refl _) (by simp)⟩
  clear hC hR
  go_enter Try.func57, Try.ntmps57
  go_wp2_with (at_builtin; refine Kd.R_append_rows KdT (Rr := KdT.K (w.alloc (.cells #[] 101))) (w0 := w) w.heap.size rfl _ _ 85 101 _ 48 rfl Try.underlying85 info_surface rfl (by decide) (by decide) (.slice (some ⟨w.heap.size, 0, none⟩) 0 0) [] (S.map Sf.tup) (some ⟨g, 0, none⟩) S.length cap Any (fun _ => False) rfl rfl hR0 hC1 (fun _ _ h => h) (fun _ h => h.elim) (fun _ _ => trivial) hb (by simp) (by simp; omega) ?_; intro v1 w1 hR1 hB1 hg1 hat1; obtain ⟨g', cap', e1, -, -, -⟩ := Kd.R_form hR1 (by rw [List.nil_append, List.length_map]; omega); rw [List.nil_append, List.length_map] at e1; subst e1; rw [List.nil_append] at hR1; clear hg1 hat1)
  go_ret
  exact ⟨g', cap', rfl, hR1, hB1⟩
set_option maxRecDepth 100000 in
theorem clonePV_any (base : Nat) (sv : Value) (l : PL) (w : World) (h : PV w base sv l) (hl : l.length ≤ 1000) :
    Calls Try.prog 60 #[sv] w fun e w' => ∃ sv', e = .returned sv' ∧ PV w' w.heap.size sv' l ∧ Below w.heap.size w w' := by
  have hq := fun (W : World) (a : Option Addr) (l c : Nat) => run_eql_slice_nil (P := Try.prog) W 22 36 a l c Try.underlying22
  obtain ⟨A, c, rfl, hc, hC⟩ := h.reads (by omega)
  obtain ⟨n, hn⟩ : ∃ n, l.length = n := ⟨_, rfl⟩
  rw [hn] at hc ⊢
  have HN := Lib.hid hn
  have hb : Below w.heap.size w (w.alloc (.cells #[] 36)) := (Below.refl _ _).alloc (Nat.le_refl _) _
  have hC1 := Kd.C_below hC hb
  have h0 : PV (w.alloc (.cells #[] 36)) w.heap.size (.slice (some ⟨w.heap.size, 0, none⟩) 0 0) [] := .inr ⟨w.heap.size, 0, #[], rfl, Nat.le_refl _, heap_alloc_new w _, by simp, by simp [flatP]⟩
  cases A with
  | none =>
    have hn0 : n = 0 := by
      rcases Nat.eq_zero_or_pos n with h1 | h1
      · exact h1
      · obtain ⟨b, o, e, -⟩ := pc_cell hC 0 (by omega)
        cases e
    have hl0 : Hid (l = []) := Lib.hid (List.eq_nil_of_length_eq_zero (by rw [hn, hn0]))
    clear hn hC hC1 h h0
    go_enter Try.func60, Try.ntmps60
    go_wp2
    go_ret
    exact ⟨_, rfl, by rw [hl0.out]; exact PV.nil _ _, Below.refl _ _⟩
  | some ad =>
    clear hn hC h
    go_enter Try.func60, Try.ntmps60
    go_wp2_with (at_builtin; refine pv_append _ w.heap.size rfl _ _ rfl (.slice (some ⟨w.heap.size, 0, none⟩) 0 0) [] l (some ad) n c (by rfl) (by rfl) h0 hC1 HN.out (by have := HN.out; simp; omega) (by simp) ?_; intro v1 w1 hPV1 hB1; rw [List.nil_append] at hPV1)
    go_ret
    exact ⟨_, rfl, hPV1, below_step hb hB1⟩
end Go.Proofs.Ytfkfdaammlffmaa
