import Derived.Test.YtfkfdaammlffmaaMT
/-! Maps of a sector that may be nil; what the scratches erase of a sector, looked up; rows that grow, as a run. -/
namespace Go.Proofs.Ytfkfdaammlffmaa
set_option linter.unusedVariables false
set_option linter.unusedSimpArgs false
open Go.RowKit Go.Proofs
open Go.Proofs.YtfkfdaammlffmaaW.PrintWords
open Go.Maps Go.ChangeShapes Go.ChangeMaps Go.WideShapes Go.MapKept

/-- the changed bytes that a map of a sector holds -/
inductive HasMap (w : World) : Option Nat → PL → Prop where
  | nil : HasMap w none []
  | map (b nn : Nat) (l : PL) (h : IM Try.prog 3 5 .u8 w b nn l) : HasMap w (some b) l
theorem im_lt {P : Program} {k e : TypeId} {q : IntKind} {w : World} {b n : Nat} {l : PL} (h : IM P k e q w b n l) : b < w.heap.size := by
  obtain ⟨es, clock, hb, -⟩ := h
  exact (Array.getElem?_eq_some_iff.1 hb).1
theorem HasMap.of_block {w w' : World} {ch : Option Nat} {l : PL} (h : HasMap w ch l) (hb : ∀ b, ch = some b → w'.heap[b]? = w.heap[b]?) : HasMap w' ch l := by
  cases h with
  | nil => exact .nil
  | map b nn l h => exact .map b nn l (im_of_block h (hb b rfl))
theorem HasMap.lt {w : World} {ch : Option Nat} {l : PL} (h : HasMap w ch l) : ∀ b, ch = some b → b < w.heap.size := by
  intro b e
  cases h with
  | nil => cases e
  | map b' nn l h => cases e; exact im_lt h
theorem HasMap.below {w w' : World} {ch : Option Nat} {l : PL} (h : HasMap w ch l) (hb : Below w.heap.size w w') : HasMap w' ch l := h.of_block (fun b e => hb.block b (h.lt b e))
theorem HasMap.srt {w : World} {ch : Option Nat} {l : PL} (h : HasMap w ch l) : Srt l := by
  cases h with
  | nil => exact List.Pairwise.nil
  | map b nn l h => exact im_srt (Go.Maps.int_keyed Try.underlying3) h
/-- a range over such a map, under way -/
inductive RO (w : World) : Option Nat → Nat → PL → PL → Nat → Prop where
  | nil (r : Nat) (h : w.heap[r]? = some (.mapIter none 0 #[] 0)) : RO w none r [] [] 0
  | map (b r n cnt : Nat) (l rem : PL) (h : MR Try.prog 3 5 .u8 w b r n l rem cnt) : RO w (some b) r l rem cnt
theorem RO.of_block {w w' : World} {ch : Option Nat} {r cnt : Nat} {l rem : PL} (h : RO w ch r l rem cnt) (hb : ∀ b, ch = some b → w'.heap[b]? = w.heap[b]?) (hr : w'.heap[r]? = w.heap[r]?) : RO w' ch r l rem cnt := by
  cases h with
  | nil r h => exact .nil r (hr.trans h)
  | map b r n cnt l rem h => exact .map b r n cnt l rem (mr_of_block h (hb b rfl) hr)
section
variable {ops : Array Oper} {rest : List Oper} {o : Oper} {a : Act} {Q : Exit → Act → World → Prop}
theorem ro_range (w : World) (hg : o.guard = none) (m : Operand) (hop : o.op = Op.range 99 m) (ch : Option Nat) (l : PL) (hm : a.eval m = .map ch) (hown : HasMap w ch l)
    (hK : ∀ w' cnt, RO w' ch w.heap.size l l cnt → w.grownBy w' none → w'.heap.size = w.heap.size + 1 → wpList Try.prog ops Q rest (a.put o.dst (.pointer (some ⟨w.heap.size, 0, none⟩))) w') :
    wpList Try.prog ops Q (o :: rest) a w := by
  cases hown with
  | nil =>
    refine wpList_plain hg fun K' hK' => ?_
    unfold Oper.wp
    have hrun : (Instr.range 99 (.map none)).run Try.prog w = .ok (.pointer (some ⟨w.heap.size, 0, none⟩)) (w.alloc (.mapIter none 0 #[] 0)) := by
      simp [Instr.range, run_underlying Try.underlying99, Result.andThen]
    simp [execOp, hop, hm, hrun, Result.andThen]
    exact hK' _ _ (hK _ 0 (.nil _ (heap_alloc_new w _)) ⟨rfl, rfl, rfl, by simp, fun j hj _ => Below.heap_alloc w _ j hj⟩ (by simp))
  | map b nn l h =>
    exact im_range w hg m _ hop 3 5 .u8 Try.underlying3 Try.underlying99 b nn l hm h (fun w' cnt h1 h2 h3 => hK w' cnt (.map b _ nn cnt l l h1) h2 h3)
theorem ro_next (w : World) (hg : o.guard = none) (it : Operand) (hop : o.op = Op.next it false) (ch : Option Nat) (r : Nat) (l rem : PL) (cnt : Nat) (hit : a.eval it = .pointer (some ⟨r, 0, none⟩)) (h : RO w ch r l rem cnt) (hs : Srt l) (hsub : ∀ x ∈ rem, x ∈ l)
    (hDone : rem = [] → wpList Try.prog ops Q rest (a.put o.dst (.tuple #[.bool false])) w)
    (hMore : ∀ (x c : Int) (w' : World) (cnt' : Nat), (Lit.int .i64 x).wf = true → (Lit.int .u8 c).wf = true → (x, c) ∈ rem → RO w' ch r l (strL x rem) cnt' → cnt' < cnt →
      w.grownBy w' (some r) → w'.heap.size = w.heap.size → (Instr.entry (.pointer (some ⟨r, 0, none⟩))).run Try.prog w' = .ok (.tuple #[.int .i64 x, .int .u8 c]) w' → wpList Try.prog ops Q rest (a.put o.dst (.tuple #[.bool true, .int .i64 x, .int .u8 c])) w') :
    wpList Try.prog ops Q (o :: rest) a w := by
  cases h with
  | nil r h =>
    refine wpList_plain hg fun K' hK' => ?_
    unfold Oper.wp
    have hrun : (Instr.next (.pointer (some ⟨r, 0, none⟩)) false o.type).run Try.prog w = .ok (.tuple #[.bool false]) w := by
      simp only [Instr.next, getObj, Sem.run_bind, Sem.run, h, Result.andThen]
      rfl
    simp [execOp, hop, hit, hrun, Result.andThen]
    exact hK' _ _ (hDone rfl)
  | map b r n cnt l rem h =>
    exact im_next w hg it hop 3 5 .u8 Try.underlying3 Try.underlying5 b r n l rem cnt hit h hs hsub hDone (fun x c w' cnt' h1 h2 h3 h4 h5 h6 h7 h8 => hMore x c w' cnt' h1 h2 h3 (.map b r n cnt' l _ h4) h5 h6 h7 h8)
end

/-- what scratches erase of sector i, looked up -/
theorem LM.look {w : World} {base : Nat} {lv : Value} {offs : List Int} (h : LM w base lv offs) (i : Int) (h0 : 0 ≤ i) (h1 : i < 4096) :
    ∃ A c, IC .i64 w A (lostAt offs i) ∧ (lostAt offs i).length ≤ c ∧ ∀ w', Below w.heap.size w w' → (Instr.lookup 86 lv (.int .i64 i) false).run Try.prog w' = .ok (.slice A (lostAt offs i).length c) w' := by
  rcases h with ⟨rfl, rfl⟩ | ⟨lb, gb, es, clock, D, rfl, hb1, hb0, F, hDe, hD⟩
  · refine ⟨none, 0, ⟨rfl, by simp [lostAt], fun h => absurd h (by simp [lostAt])⟩, by simp [lostAt], fun w' _ => ?_⟩
    have := Maps.look_nil (w := w') (P := Try.prog) (t := 86) (e := 30) (z := .slice none 0 0) false (Go.Maps.int_keyed Try.underlying3) Try.underlying86 (Try.zeroValue30 _) (Go.Maps.keyOf_int_mk Try.underlying3 (WalkArith.wf_i64 (show -9223372036854775808 ≤ i ∧ i ≤ 9223372036854775807 by omega)))
    simpa [lostAt] using this
  · have hkey := Go.Maps.keyOf_int_mk (P := Try.prog) Try.underlying3 (WalkArith.wf_i64 (show -9223372036854775808 ≤ i ∧ i ≤ 9223372036854775807 by omega))
    have hlk : ∃ v zs, (Instr.lookup 86 (.map (some lb)) (.int .i64 i) false).run Try.prog w = .ok v w ∧ D.atKey (.int .i64 i) .nil = rowDatum .i64 v zs ∧ w.ownsInts gb 3 .i64 v zs := by
      rcases Maps.fit_look false (Go.Maps.int_keyed Try.underlying3) Try.underlying86 (Try.zeroValue30 w) hb0 F hkey with ⟨hrun, _, hat⟩ | ⟨e0, y, hm0, h3, hrun, hR, hat, _⟩
      · exact ⟨.slice none 0 0, [], hrun, by rw [hDe]; exact hat _, World.ownsInts_nil _ _ _ _⟩
      · obtain ⟨zs, ho, rfl⟩ := rowElem_inv hR
        exact ⟨e0.val, zs, hrun, by rw [hDe]; exact hat _, ho⟩
    obtain ⟨v, zs, hlk0, hat, hoi⟩ := hlk
    obtain rfl := hD.at_ hoi hat
    have hR : IR .i64 3 w gb v (lostAt offs i) := Kd.R_of_own hoi.1 (fun _ _ => trivial)
    obtain ⟨A, c, rfl, hc, hC⟩ := Kd.R_reads hR
    refine ⟨A, c, hC, hc, fun w' hw' => ?_⟩
    exact lookup_same (H := Unit) Try.underlying3 Try.underlying86 (fun u => Try.zeroValue30 u) hb0 ((hw'.block lb (Array.getElem?_eq_some_iff.1 hb0).1).trans hb0) F hkey hlk0

/-- append, as a run: the source nil, empty or not -/
theorem append_run {W : World} {base : Nat} {v : Value} {xs ys : List Int} {A : Option Addr} {n c : Nat} (ty : TypeId) (HO : IR .i64 3 W base v xs) (HR : IC .i64 W A ys) (hn : ys.length = n) (hbase : base ≤ W.heap.size) (hl : (xs.length + n) * 8 ≤ 140737488355328) :
    ∃ v' w', (Builtin.append_ #[30, 30] ty #[v, .slice A n c]).run Try.prog W = .ok v' w' ∧ IR .i64 3 w' base v' (xs ++ ys) ∧ W.grownBy w' v.ownBlock := by
  obtain ⟨i0, hi, hzz⟩ := Option.map_eq_some_iff.1 info_int
  simp only [Prod.mk.injEq] at hzz
  obtain ⟨hz0, hz1, hz2⟩ := hzz
  have ho := Kd.own_of_R HO
  rcases Nat.eq_zero_or_pos n with h0 | h0
  · subst h0
    obtain rfl : ys = [] := List.eq_nil_of_length_eq_zero hn
    rw [List.append_nil]
    refine ⟨v, W, ?_, HO, ⟨rfl, rfl, rfl, Nat.le_refl _, fun _ _ _ => rfl⟩⟩
    rcases ho.2 with ⟨rfl, hz⟩ | ⟨g, cap, cur, rfl, _, _, hnc, _⟩
    · cases A <;> simp [Builtin.append_, run_underlying Try.underlying30, sizeOf, typeInfo, hi, Builtin.lenOf, Builtin.firstCells, loadCells, loadCellsFrom]
    · cases A <;> simp [Builtin.append_, run_underlying Try.underlying30, sizeOf, typeInfo, hi, Builtin.lenOf, Builtin.firstCells, loadCells, loadCellsFrom, hnc, storeCells]
  · have hnews : ∃ ad, A = some ad ∧ ∀ j u, (encs (Value.int .i64) ys)[j]? = some u → W.cell? (ad.add j) = some u := by
      obtain ⟨ad, rfl, -⟩ := ic_cell HR 0 (by omega)
      refine ⟨ad, rfl, fun j u hj => ?_⟩
      have hjl : j < ys.length := by
        have := (List.getElem?_eq_some_iff.1 hj).1
        rwa [encs_length] at this
      obtain ⟨ad', e, hc⟩ := ic_cell HR j hjl
      obtain rfl : ad = ad' := Option.some.inj e
      have := encs_get (enc := Value.int .i64) (d := 0) ys j hjl
      rw [this] at hj
      rw [← Option.some.inj hj]
      rw [hc]
      rfl
    obtain ⟨ad, rfl, hnews⟩ := hnews
    obtain ⟨v', w', hr, h2, h3, -, -⟩ := run_append_own_at (P := Try.prog) W base 30 ty 3 i0 (.int .i64 0) 1 8 Try.underlying30 hi hz0 hz1 hz2 rfl (by decide) v xs.length _ ho ad n c (encs (Value.int .i64) ys) (by rw [encs_length]; omega) hnews (fun u hu => by
      obtain ⟨x, -, rfl⟩ := List.mem_map.1 hu
      rfl) (by unfold maxLen; omega) hl hbase
    have h4 : w'.ownsRow base 3 1 v' (xs ++ ys).length (encs (Value.int .i64) (xs ++ ys)) := by
      rw [List.length_append, hn, encs_append]
      exact h2
    exact ⟨v', w', hr, Kd.R_of_own h4 (fun _ _ => trivial), h3⟩
end Go.Proofs.Ytfkfdaammlffmaa
