import Derived.Test.YtfkfdaammlffmaaK3
/-! Sets of whole numbers: map[int]bool whose elements are all true (the pairs' second halves say nothing). -/
namespace Go.Proofs.Ytfkfdaammlffmaa
set_option linter.unusedVariables false
set_option linter.unusedSimpArgs false
open Go.RowKit
open Go.Proofs.YtfkfdaammlffmaaW.PrintWords
open Go.Maps (Keyed)

def MS (l : PL) : DataW Unit := .map (l.map fun p => (Lit.int .i64 p.1, DataW.lit (Lit.bool true)))
theorem MS_has (l : PL) (k : Int) : Maps.has (MS l) (.int .i64 k) = (look l k).isSome := by
  induction l with
  | nil => rfl
  | cons x l ih =>
    rw [look_cons]
    have : Maps.has (MS (x :: l)) (.int .i64 k) = ((Lit.int .i64 x.1).sameKey (.int .i64 k) || Maps.has (MS l) (.int .i64 k)) := rfl
    rw [this, ih]
    by_cases h : x.1 = k
    · simp [h, Lit.sameKey]
    · rw [if_neg h]; simp [h, Lit.sameKey]
theorem MS_has_mem (l : PL) (k : Int) : Maps.has (MS l) (.int .i64 k) = true ↔ ∃ v, (k, v) ∈ l := by
  rw [MS_has]
  constructor
  · intro h
    obtain ⟨v, hv⟩ := Option.isSome_iff_exists.1 h
    exact ⟨v, look_mem hv⟩
  · rintro ⟨v, hv⟩
    cases e : look l k with
    | none => exact absurd hv (look_none e v)
    | some c => rfl
theorem MS_at (l : PL) (k : Int) (z : DataW Unit) : (MS l).atKey (.int .i64 k) z = match look l k with | some _ => .lit (.bool true) | none => z := by
  induction l with
  | nil => rfl
  | cons x l ih =>
    rw [look_cons]
    simp only [MS, DataW.atKey, List.map_cons, List.find?_cons] at ih ⊢
    by_cases h : x.1 = k
    · simp [h, Lit.sameKey]
    · rw [if_neg h, ← ih]; simp [h, Lit.sameKey]
theorem MS_put (l : PL) (k v : Int) : (MS l).put (.int .i64 k) (.lit (.bool true)) = MS (putL k v l) := by
  have hf : (l.map fun p : Int × Int => (Lit.int .i64 p.1, (DataW.lit (Lit.bool true) : DataW Unit))).filter (fun p => !p.1.sameKey (.int .i64 k)) = (strL k l).map fun p : Int × Int => (Lit.int .i64 p.1, (DataW.lit (Lit.bool true) : DataW Unit)) := by
    rw [List.filter_map]
    congr 1
    refine List.filter_congr (fun x _ => ?_)
    simp only [Function.comp, Lit.sameKey]
    by_cases h : x.1 = k <;> simp [h]
  have hi : ∀ l : PL, DataW.insert (Lit.int .i64 k, (DataW.lit (Lit.bool true) : DataW Unit)) (l.map fun p : Int × Int => (Lit.int .i64 p.1, (DataW.lit (Lit.bool true) : DataW Unit))) = (insL (k, v) l).map fun p : Int × Int => (Lit.int .i64 p.1, (DataW.lit (Lit.bool true) : DataW Unit)) := by
    intro l
    induction l with
    | nil => rfl
    | cons x l ih =>
      simp only [List.map_cons, DataW.insert, insL, Lit.before]
      by_cases h : k < x.1
      · simp [h]
      · rw [if_neg h]; simp [h, ih]
  show DataW.map _ = _
  rw [hf, hi]; rfl
theorem MS_size (l : PL) : Maps.size (MS l) = l.length := by simp [MS, Maps.size]

section
variable {P : Program} {ops : Array Oper} {rest : List Oper} {o : Oper} {a : Act} {Q : Exit → Act → World → Prop}
/-- block b is a set of whole numbers -/
abbrev IS (P : Program) (k e : TypeId) (w : World) (b n : Nat) (l : PL) : Prop := w.ownsMap P k (plainElem P e) b n (MS l)
theorem is_srt {k e : TypeId} {w : World} {b n : Nat} {l : PL} (K : Keyed P k) (h : IS P k e w b n l) : Srt l := by
  obtain ⟨es, he, hp, _⟩ := World.ownsMap.canon h K
  have : es = l.map fun p => (Lit.int .i64 p.1, DataW.lit (Lit.bool true)) := by unfold MS at he; injection he with he; exact he.symm
  subst this
  rw [List.pairwise_map] at hp
  exact hp.imp (fun h => by simpa [Lit.before] using h)
theorem is_made (w : World) (P : Program) (k e : TypeId) : IS P k e (w.alloc (.map #[] 0)) w.heap.size 0 [] := World.ownsMap_made w P k _
theorem is_of_block {k e : TypeId} {w w' : World} {b n : Nat} {l : PL} (h : IS P k e w b n l) (hb : w'.heap[b]? = w.heap[b]?) : IS P k e w' b n l := by
  obtain ⟨es, clock, h1, h2⟩ := h
  exact ⟨es, clock, hb.trans h1, h2⟩
/-- m[k], as an equation on the run -/
theorem is_look_run {w : World} {t k e : TypeId} {b n : Nat} {l : PL} (hk : P.underlying k = some (.int .i64)) (ht : P.underlying t = some (.map k e)) (he : P.underlying e = some .bool) (hz : (zeroValue e).run P w = .ok (.bool false) w)
    (h : IS P k e w b n l) (i : Int) (hw : (Lit.int .i64 i).wf = true) : (Instr.lookup t (.map (some b)) (.int .i64 i) false).run P w = .ok (.bool (look l i).isSome) w := by
  obtain ⟨v, ps, hrun, hR⟩ := World.ownsMap.lookup h (Maps.int_keyed hk) ht hz (plainElem_bool he false) (Maps.keyOf_int_mk hk hw)
  rw [MS_at] at hR
  rw [hrun]
  have : v = .bool (look l i).isSome := by
    unfold plainElem at hR
    rw [he] at hR
    cases e : look l i with
    | none =>
      rw [e] at hR
      cases v <;> simp at hR
      rw [hR.1]; rfl
    | some c =>
      rw [e] at hR
      cases v <;> simp at hR
      rw [hR.1]; rfl
  rw [this]
/-- m[k] = true -/
theorem is_put (w : World) (hg : o.guard = none) (m x v : Operand) (t : TypeId) (hop : o.op = Op.mapUpdate t m x v)
    (k e : TypeId) (hk : P.underlying k = some (.int .i64)) (ht : P.underlying t = some (.map k e)) (he : P.underlying e = some .bool) (b n : Nat) (l : PL)
    (hm : a.eval m = .map (some b)) (hown : IS P k e w b n l) (hn : n < maxLen) (i : Int) (hx : a.eval x = .int .i64 i) (hv : a.eval v = .bool true) (hw : (Lit.int .i64 i).wf = true) (c : Int)
    (hK : ∀ w', IS P k e w' b (n + 1) (putL i c l) → w.grownBy w' (some b) → wpList P ops Q rest (a.put o.dst undef) w') :
    wpList P ops Q (o :: rest) a w := by
  refine wpList_mapUpdate_own w hg m x v t hop k e (Maps.int_keyed hk) ht (plainElem P e) b n (MS l) hm hown hn _ _ (.int .i64 i) hx hv (Maps.keyOf_int_mk hk hw) (.lit (.bool true)) [] (plainElem_bool he true) ?_
  intro w' h1 h2
  rw [MS_put l i c] at h1
  exact hK w' h1 h2
end
end Go.Proofs.Ytfkfdaammlffmaa
