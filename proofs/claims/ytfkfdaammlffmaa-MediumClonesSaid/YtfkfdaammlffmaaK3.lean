import Derived.Test.YtfkfdaammlffmaaK1
import Derived.Maps.RangeWalk
import Derived.Maps.OwnSet
import Derived.Maps.OwnOps
import Derived.Maps.Ext
/-! Maps from whole numbers to whole numbers, as lists of pairs by rising key. -/
namespace Go.Proofs.Ytfkfdaammlffmaa
set_option linter.unusedVariables false
set_option linter.unusedSimpArgs false
open Go.RowKit
open Go.Proofs.YtfkfdaammlffmaaW.PrintWords
open Go.Maps (Keyed)

abbrev PL := List (Int × Int)
def look (l : PL) (k : Int) : Option Int := (l.find? (fun p => p.1 == k)).map (·.2)
def insL (x : Int × Int) : PL → PL
  | [] => [x]
  | y :: r => if x.1 < y.1 then x :: y :: r else y :: insL x r
def strL (k : Int) (l : PL) : PL := l.filter (fun p => !(p.1 == k))
def putL (k v : Int) (l : PL) : PL := insL (k, v) (strL k l)
def Srt (l : PL) : Prop := l.Pairwise (fun a b => a.1 < b.1)

theorem look_nil (k : Int) : look [] k = none := rfl
theorem look_cons (x : Int × Int) (l : PL) (k : Int) : look (x :: l) k = if x.1 = k then some x.2 else look l k := by
  unfold look
  rw [List.find?_cons]
  by_cases h : x.1 = k
  · simp [h]
  · have : (x.1 == k) = false := by simpa using h
    simp [h, this]
theorem look_mem {l : PL} {k v : Int} (h : look l k = some v) : (k, v) ∈ l := by
  induction l with
  | nil => simp [look_nil] at h
  | cons x l ih =>
    rw [look_cons] at h
    split at h
    · rename_i e
      injection h with h
      subst e; subst h
      exact List.mem_cons_self
    · exact List.mem_cons_of_mem _ (ih h)
theorem mem_look {l : PL} (hs : Srt l) {k v : Int} (h : (k, v) ∈ l) : look l k = some v := by
  induction l with
  | nil => simp at h
  | cons x l ih =>
    obtain ⟨h1, h2⟩ := List.pairwise_cons.1 hs
    rw [look_cons]
    rcases List.mem_cons.1 h with rfl | h
    · simp
    · have := h1 _ h
      rw [if_neg (by simp only at this; omega)]
      exact ih h2 h
theorem look_none {l : PL} {k : Int} (h : look l k = none) (v : Int) : (k, v) ∉ l := by
  intro hm
  induction l with
  | nil => simp at hm
  | cons x l ih =>
    rw [look_cons] at h
    split at h
    · cases h
    · rename_i e
      rcases List.mem_cons.1 hm with rfl | hm
      · exact e rfl
      · exact ih h hm
theorem look_insL (x : Int × Int) (l : PL) (hx : look l x.1 = none) (j : Int) : look (insL x l) j = if x.1 = j then some x.2 else look l j := by
  induction l with
  | nil => rw [insL, look_cons]
  | cons y l ih =>
    rw [look_cons] at hx
    split at hx
    · cases hx
    · rename_i e
      rw [insL]
      split
      · rw [look_cons]
      · rw [look_cons, look_cons, ih hx]
        by_cases h : y.1 = j
        · rw [if_pos h, if_pos h, if_neg (by rw [← h]; exact fun h => e h.symm)]
        · rw [if_neg h, if_neg h]
theorem look_strL (k : Int) (l : PL) (j : Int) : look (strL k l) j = if j = k then none else look l j := by
  induction l with
  | nil => simp [strL, look_nil]
  | cons x l ih =>
    by_cases h : x.1 = k
    · have : strL k (x :: l) = strL k l := by simp [strL, h]
      rw [this, ih, look_cons]
      by_cases hj : j = k
      · simp [hj]
      · rw [if_neg hj, if_neg hj, if_neg (by rw [h]; exact fun e => hj e.symm)]
    · have : strL k (x :: l) = x :: strL k l := by simp [strL, h]
      rw [this, look_cons, look_cons, ih]
      by_cases hj : j = k
      · rw [if_pos hj, if_neg (by rw [hj]; exact h)]
        simp [hj]
      · rw [if_neg hj]
        by_cases hx : x.1 = j
        · simp [hx]; exact hj
        · rw [if_neg hx]; simp [hj]
theorem look_putL (k v : Int) (l : PL) (j : Int) : look (putL k v l) j = if k = j then some v else look l j := by
  unfold putL
  rw [look_insL _ _ (by rw [look_strL, if_pos rfl]), look_strL]
  by_cases h : k = j
  · rw [if_pos h, if_pos h]
  · rw [if_neg h, if_neg h, if_neg (fun e => h e.symm)]
theorem insL_length (x : Int × Int) (l : PL) : (insL x l).length = l.length + 1 := by
  induction l with
  | nil => rfl
  | cons y l ih => rw [insL]; split <;> simp [ih]
theorem putL_length (k v : Int) (l : PL) : (putL k v l).length ≤ l.length + 1 := by
  unfold putL strL
  rw [insL_length]
  have := List.length_filter_le (fun p : Int × Int => !(p.1 == k)) l
  omega
theorem srt_strL {l : PL} (h : Srt l) (k : Int) : Srt (strL k l) := List.Pairwise.filter _ h
theorem mem_insL (x y : Int × Int) (l : PL) : y ∈ insL x l ↔ y = x ∨ y ∈ l := by
  induction l with
  | nil => simp [insL]
  | cons z l ih =>
    rw [insL]
    split
    · simp
    · rw [List.mem_cons, ih, List.mem_cons]; constructor <;> rintro (h | h | h) <;> simp [h]
theorem srt_insL {x : Int × Int} {l : PL} (h : Srt l) (hx : ∀ y ∈ l, y.1 ≠ x.1) : Srt (insL x l) := by
  induction l with
  | nil => exact List.pairwise_singleton _ _
  | cons y l ih =>
    obtain ⟨h1, h2⟩ := List.pairwise_cons.1 h
    rw [insL]
    split
    · rename_i hlt
      refine List.pairwise_cons.2 ⟨fun z hz => ?_, h⟩
      rcases List.mem_cons.1 hz with rfl | hz
      · exact hlt
      · exact Int.lt_trans hlt (h1 z hz)
    · rename_i hlt
      have hy := hx y List.mem_cons_self
      refine List.pairwise_cons.2 ⟨fun z hz => ?_, ih h2 (fun z hz => hx z (List.mem_cons_of_mem _ hz))⟩
      rcases (mem_insL _ _ _).1 hz with rfl | hz
      · omega
      · exact h1 z hz
theorem srt_putL {l : PL} (h : Srt l) (k v : Int) : Srt (putL k v l) := by
  refine srt_insL (srt_strL h k) (fun y hy => ?_)
  have := (List.mem_filter.1 hy).2
  simpa using this
theorem mem_putL {l : PL} {k v : Int} {x : Int × Int} : x ∈ putL k v l ↔ x = (k, v) ∨ (x ∈ l ∧ x.1 ≠ k) := by
  unfold putL strL
  rw [mem_insL, List.mem_filter]
  simp

/-- as the kit reads a map -/
def MD (q : IntKind) (l : PL) : DataW Unit := .map (l.map fun p => (Lit.int .i64 p.1, DataW.lit (Lit.int q p.2)))
theorem MD_has (q : IntKind) (l : PL) (k : Int) : Maps.has (MD q l) (.int .i64 k) = (look l k).isSome := by
  induction l with
  | nil => rfl
  | cons x l ih =>
    rw [look_cons]
    have : Maps.has (MD q (x :: l)) (.int .i64 k) = ((Lit.int .i64 x.1).sameKey (.int .i64 k) || Maps.has (MD q l) (.int .i64 k)) := rfl
    rw [this, ih]
    by_cases h : x.1 = k
    · simp [h, Lit.sameKey]
    · rw [if_neg h]; simp [h, Lit.sameKey]
theorem MD_has_mem (q : IntKind) (l : PL) (k : Int) : Maps.has (MD q l) (.int .i64 k) = true ↔ ∃ v, (k, v) ∈ l := by
  rw [MD_has]
  constructor
  · intro h
    obtain ⟨v, hv⟩ := Option.isSome_iff_exists.1 h
    exact ⟨v, look_mem hv⟩
  · rintro ⟨v, hv⟩
    cases e : look l k with
    | none => exact absurd hv (look_none e v)
    | some c => rfl
theorem MD_at (q : IntKind) (l : PL) (k : Int) (z : DataW Unit) : (MD q l).atKey (.int .i64 k) z = match look l k with | some c => .lit (.int q c) | none => z := by
  induction l with
  | nil => rfl
  | cons x l ih =>
    rw [look_cons]
    simp only [MD, DataW.atKey, List.map_cons, List.find?_cons] at ih ⊢
    by_cases h : x.1 = k
    · simp [h, Lit.sameKey]
    · rw [if_neg h, ← ih]; simp [h, Lit.sameKey]
theorem MD_put (q : IntKind) (l : PL) (k v : Int) : (MD q l).put (.int .i64 k) (.lit (.int q v)) = MD q (putL k v l) := by
  have hf : (l.map fun p : Int × Int => (Lit.int .i64 p.1, (DataW.lit (Lit.int q p.2) : DataW Unit))).filter (fun p => !p.1.sameKey (.int .i64 k)) = (strL k l).map fun p : Int × Int => (Lit.int .i64 p.1, (DataW.lit (Lit.int q p.2) : DataW Unit)) := by
    rw [List.filter_map]
    congr 1
    refine List.filter_congr (fun x _ => ?_)
    simp only [Function.comp, Lit.sameKey]
    by_cases h : x.1 = k <;> simp [h]
  have hi : ∀ l : PL, DataW.insert (Lit.int .i64 k, (DataW.lit (Lit.int q v) : DataW Unit)) (l.map fun p : Int × Int => (Lit.int .i64 p.1, (DataW.lit (Lit.int q p.2) : DataW Unit))) = (insL (k, v) l).map fun p : Int × Int => (Lit.int .i64 p.1, (DataW.lit (Lit.int q p.2) : DataW Unit)) := by
    intro l
    induction l with
    | nil => rfl
    | cons x l ih =>
      simp only [List.map_cons, DataW.insert, insL, Lit.before]
      by_cases h : k < x.1
      · simp [h]
      · rw [if_neg h]; simp [h, ih]
  show DataW.map _ = _
  rw [hf, hi]; rfl
theorem MD_size (q : IntKind) (l : PL) : Maps.size (MD q l) = l.length := by simp [MD, Maps.size]
theorem MD_strike (q : IntKind) (l : PL) (k : Int) : (fun z => Maps.has (MD q l) z && !z.sameKey (.int .i64 k)) = Maps.has (MD q (strL k l)) := by
  funext z
  have hno : ∀ l : PL, (∀ j, z ≠ .int .i64 j) → Maps.has (MD q l) z = false := by
    intro l hz
    induction l with
    | nil => rfl
    | cons x l ih =>
      have : Maps.has (MD q (x :: l)) z = ((Lit.int .i64 x.1).sameKey z || Maps.has (MD q l) z) := rfl
      rw [this, ih, Bool.or_false]
      exact Maps.sameKey_ne (fun e => hz _ e.symm)
  by_cases hz : ∃ j, z = .int .i64 j
  · obtain ⟨j, rfl⟩ := hz
    rw [MD_has, MD_has, look_strL]
    by_cases h : j = k
    · simp [h, Lit.sameKey]
    · simp [h, Lit.sameKey]
  · have hz' : ∀ j, z ≠ .int .i64 j := fun j e => hz ⟨j, e⟩
    rw [hno _ hz', hno _ hz']; rfl

section
variable {P : Program} {ops : Array Oper} {rest : List Oper} {o : Oper} {a : Act} {Q : Exit → Act → World → Prop}
/-- block b is a map of whole numbers (keys of int, elements of kind q), of at most n entries, which holds l -/
abbrev IM (P : Program) (k e : TypeId) (q : IntKind) (w : World) (b n : Nat) (l : PL) : Prop := w.ownsMap P k (plainElem P e) b n (MD q l)
theorem im_srt {k e : TypeId} {q : IntKind} {w : World} {b n : Nat} {l : PL} (K : Keyed P k) (h : IM P k e q w b n l) : Srt l := by
  obtain ⟨es, he, hp, _⟩ := World.ownsMap.canon h K
  have : es = l.map fun p => (Lit.int .i64 p.1, DataW.lit (Lit.int q p.2)) := by unfold MD at he; injection he with he; exact he.symm
  subst this
  rw [List.pairwise_map] at hp
  exact hp.imp (fun h => by simpa [Lit.before] using h)
theorem im_made (w : World) (P : Program) (k e : TypeId) (q : IntKind) : IM P k e q (w.alloc (.map #[] 0)) w.heap.size 0 [] := World.ownsMap_made w P k _
theorem im_of_block {k e : TypeId} {q : IntKind} {w w' : World} {b n : Nat} {l : PL} (h : IM P k e q w b n l) (hb : w'.heap[b]? = w.heap[b]?) : IM P k e q w' b n l := by
  obtain ⟨es, clock, h1, h2⟩ := h
  exact ⟨es, clock, hb.trans h1, h2⟩

/-- v, ok := m[k] -/
theorem im_look_ok (w : World) (hg : o.guard = none) (m x : Operand) (t : TypeId) (hop : o.op = Op.lookup t m x true)
    (k e : TypeId) (q : IntKind) (hk : P.underlying k = some (.int .i64)) (ht : P.underlying t = some (.map k e)) (he : P.underlying e = some (.int q)) (hz : (zeroValue e).run P w = .ok (.int q 0) w) (b n : Nat) (l : PL)
    (hm : a.eval m = .map (some b)) (hown : IM P k e q w b n l) (i : Int) (hx : a.eval x = .int .i64 i) (hw : (Lit.int .i64 i).wf = true)
    (hK : wpList P ops Q rest (a.put o.dst (.tuple #[.int q ((look l i).getD 0), .bool (look l i).isSome])) w) :
    wpList P ops Q (o :: rest) a w := by
  refine wpList_lookup_own_ok_int w hg m x t hop k e q (Maps.int_keyed hk) ht he hz b n (MD q l) hm hown _ (.int .i64 i) hx (Maps.keyOf_int_mk hk hw) ?_
  intro c hat hwc
  rw [MD_has]
  rw [MD_at] at hat
  cases e : look l i with
  | none => rw [e] at hat hK; injection hat with hat; injection hat with _ hat; subst hat; exact hK
  | some v => rw [e] at hat hK; injection hat with hat; injection hat with _ hat; subst hat; exact hK
/-- m[k] -/
theorem im_look (w : World) (hg : o.guard = none) (m x : Operand) (t : TypeId) (hop : o.op = Op.lookup t m x false)
    (k e : TypeId) (q : IntKind) (hk : P.underlying k = some (.int .i64)) (ht : P.underlying t = some (.map k e)) (he : P.underlying e = some (.int q)) (hz : (zeroValue e).run P w = .ok (.int q 0) w) (b n : Nat) (l : PL)
    (hm : a.eval m = .map (some b)) (hown : IM P k e q w b n l) (i : Int) (hx : a.eval x = .int .i64 i) (hw : (Lit.int .i64 i).wf = true)
    (hK : wpList P ops Q rest (a.put o.dst (.int q ((look l i).getD 0))) w) :
    wpList P ops Q (o :: rest) a w := by
  refine wpList_lookup_own_int w hg m x t hop k e q (Maps.int_keyed hk) ht he hz b n (MD q l) hm hown _ (.int .i64 i) hx (Maps.keyOf_int_mk hk hw) ?_
  intro c hat hwc
  rw [MD_at] at hat
  cases e : look l i with
  | none => rw [e] at hat hK; injection hat with hat; injection hat with _ hat; subst hat; exact hK
  | some v => rw [e] at hat hK; injection hat with hat; injection hat with _ hat; subst hat; exact hK
/-- m[k] = v -/
theorem im_put (w : World) (hg : o.guard = none) (m x v : Operand) (t : TypeId) (hop : o.op = Op.mapUpdate t m x v)
    (k e : TypeId) (q : IntKind) (hk : P.underlying k = some (.int .i64)) (ht : P.underlying t = some (.map k e)) (he : P.underlying e = some (.int q)) (b n : Nat) (l : PL)
    (hm : a.eval m = .map (some b)) (hown : IM P k e q w b n l) (hn : n < maxLen) (i c : Int) (hx : a.eval x = .int .i64 i) (hv : a.eval v = .int q c) (hw : (Lit.int .i64 i).wf = true) (hc : (Lit.int q c).wf = true)
    (hK : ∀ w', IM P k e q w' b (n + 1) (putL i c l) → w.grownBy w' (some b) → wpList P ops Q rest (a.put o.dst undef) w') :
    wpList P ops Q (o :: rest) a w := by
  refine wpList_mapUpdate_own w hg m x v t hop k e (Maps.int_keyed hk) ht (plainElem P e) b n (MD q l) hm hown hn _ _ (.int .i64 i) hx hv (Maps.keyOf_int_mk hk hw) (.lit (.int q c)) [] (plainElem_int he hc) ?_
  intro w' h1 h2
  rw [MD_put] at h1
  exact hK w' h1 h2

/-- a range under way: rem is still to come -/
abbrev MR (P : Program) (k e : TypeId) (q : IntKind) (w : World) (b r n : Nat) (l rem : PL) (cnt : Nat) : Prop := w.ranges P k (plainElem P e) b r n (MD q l) (Maps.has (MD q rem)) cnt
/-- range m -/
theorem im_range (w : World) (hg : o.guard = none) (m : Operand) (t : TypeId) (hop : o.op = Op.range t m) (k e : TypeId) (q : IntKind) (hk : P.underlying k = some (.int .i64)) (ht : P.underlying t = some (.map k e)) (b n : Nat) (l : PL)
    (hm : a.eval m = .map (some b)) (hown : IM P k e q w b n l)
    (hK : ∀ w' cnt, MR P k e q w' b w.heap.size n l l cnt → w.grownBy w' none → w'.heap.size = w.heap.size + 1 → wpList P ops Q rest (a.put o.dst (.pointer (some ⟨w.heap.size, 0, none⟩))) w') :
    wpList P ops Q (o :: rest) a w :=
  wpList_range_own w hg m t hop k e (Maps.int_keyed hk) ht (plainElem P e) b n (MD q l) hm hown (fun w' h1 h2 h3 => hK w' _ h1 h2 h3)
/-- next -/
theorem im_next (w : World) (hg : o.guard = none) (it : Operand) (hop : o.op = Op.next it false) (k e : TypeId) (q : IntKind) (hk : P.underlying k = some (.int .i64)) (he : P.underlying e = some (.int q))
    (b r n : Nat) (l rem : PL) (cnt : Nat) (hit : a.eval it = .pointer (some ⟨r, 0, none⟩)) (h : MR P k e q w b r n l rem cnt) (hs : Srt l) (hsub : ∀ x ∈ rem, x ∈ l)
    (hDone : rem = [] → wpList P ops Q rest (a.put o.dst (.tuple #[.bool false])) w)
    (hMore : ∀ (x c : Int) (w' : World) (cnt' : Nat), (Lit.int .i64 x).wf = true → (Lit.int q c).wf = true → (x, c) ∈ rem → MR P k e q w' b r n l (strL x rem) cnt' → cnt' < cnt →
      w.grownBy w' (some r) → w'.heap.size = w.heap.size → (Instr.entry (.pointer (some ⟨r, 0, none⟩))).run P w' = .ok (.tuple #[.int .i64 x, .int q c]) w' → wpList P ops Q rest (a.put o.dst (.tuple #[.bool true, .int .i64 x, .int q c])) w') :
    wpList P ops Q (o :: rest) a w := by
  refine wpList_next_ranges_ii w hg it hop k e .i64 q (Maps.int_keyed hk) hk he b r n (MD q l) _ cnt hit h ?_ ?_
  · intro h0 hl
    refine hDone ?_
    cases rem with
    | nil => rfl
    | cons y rem =>
      have := hl (.int .i64 y.1)
      rw [(MD_has_mem q (y :: rem) y.1).2 ⟨y.2, List.mem_cons_self⟩] at this
      cases this
  · intro x c w' cnt' hwx hwc hlx hat hrg hlt hg hsz hen
    rw [MD_strike] at hrg
    obtain ⟨v, hv⟩ := (MD_has_mem q rem x).1 hlx
    have hl := mem_look hs (hsub _ hv)
    have := hat .nil
    rw [MD_at, hl] at this
    injection this with this
    injection this with _ this
    subst this
    exact hMore x v w' cnt' hwx hwc hv hrg hlt hg hsz hen
theorem mr_of_block {k e : TypeId} {q : IntKind} {w w' : World} {b r n cnt : Nat} {l rem : PL} (h : MR P k e q w b r n l rem cnt) (hb : w'.heap[b]? = w.heap[b]?) (hr : w'.heap[r]? = w.heap[r]?) : MR P k e q w' b r n l rem cnt := by
  obtain ⟨es, clock, since, seen, c0, h1, h2, h3, h4, h5, h6⟩ := h
  exact ⟨es, clock, since, seen, c0, hb.trans h1, h2, h3, h4, hr.trans h5, h6⟩
theorem mr_owns {k e : TypeId} {q : IntKind} {w : World} {b r n cnt : Nat} {l rem : PL} (h : MR P k e q w b r n l rem cnt) : IM P k e q w b n l := World.ranges.owns h

/-- nothing but the blocks t and m has turned among those that there were -/
structure But (t m : Nat) (w w' : World) : Prop where
  os : w'.os = w.os
  tape : w'.tape = w.tape
  output : w'.output = w.output
  size : w.heap.size ≤ w'.heap.size
  block : ∀ k, k < w.heap.size → k ≠ t → k ≠ m → w'.heap[k]? = w.heap[k]?
theorem But.refl (t m : Nat) (w : World) : But t m w w := ⟨rfl, rfl, rfl, Nat.le_refl _, fun _ _ _ _ => rfl⟩
theorem But.trans {t m : Nat} {a b c : World} (h : But t m a b) (k : But t m b c) : But t m a c :=
  ⟨k.os.trans h.os, k.tape.trans h.tape, k.output.trans h.output, Nat.le_trans h.size k.size, fun i h1 h2 h3 => (k.block i (Nat.lt_of_lt_of_le h1 h.size) h2 h3).trans (h.block i h1 h2 h3)⟩
theorem But.below {t m B : Nat} {a b c : World} (h : Below B a b) (k : But t m b c) (hB : B ≤ b.heap.size) (ht : B ≤ t) (hm : B ≤ m) : Below B a c :=
  ⟨k.os.trans h.os, k.tape.trans h.tape, k.output.trans h.output, Nat.le_trans h.size k.size, fun i hi => (k.block i (by omega) (by omega) (by omega)).trans (h.block i hi)⟩
theorem But.of_below {t m : Nat} {a b : World} (h : Below a.heap.size a b) : But t m a b := ⟨h.os, h.tape, h.output, h.size, fun i h1 _ _ => h.block i h1⟩
theorem But.of_grown {t m : Nat} {a b : World} {row : Option Nat} (h : a.grownBy b row) (hr : ∀ k, row = some k → k = t ∨ k = m) : But t m a b :=
  ⟨h.os, h.tape, h.output, h.size, fun i h1 h2 h3 => h.block i h1 (fun e => by rcases hr i e.symm with h | h; exact h2 h; exact h3 h)⟩
theorem But.set {t m : Nat} {a b : World} (h : But t m a b) {p : Addr} (hp : p.block = t) (v : Value) : But t m a (b.setCell p v) :=
  ⟨h.os, h.tape, h.output, by simpa using h.size, fun i h1 h2 h3 => (Below.heap_setCell b p v i (by rw [hp]; exact h2)).trans (h.block i h1 h2 h3)⟩
theorem But.drew {t m : Nat} {a b : World} (h : But t m a b) : But t m a b.drew := ⟨h.os, h.tape, h.output, h.size, h.block⟩

theorem ic_of_block {k : IntKind} {w w' : World} {A : Option Addr} {xs : List Int} (h : IC k w A xs) (hb : ∀ a, A = some a → w'.heap[a.block]? = w.heap[a.block]?) : IC k w' A xs := by
  obtain ⟨h1, h2, h3⟩ := h
  refine ⟨h1, h2, fun hp => ?_⟩
  obtain ⟨ad, rfl, hc⟩ := h3 hp
  refine ⟨ad, rfl, fun j p hj => ?_⟩
  obtain ⟨c, hl, hk, hcell⟩ := hc j p hj
  refine ⟨c, hl, hk, fun i u hu => ?_⟩
  rw [World.cell?_of_block (w := w) (by have := hb ad rfl; unfold Addr.add; split <;> exact this)]
  exact hcell i u hu
theorem ir_of_block {k : IntKind} {e base : Nat} {w w' : World} {v : Value} {xs : List Int} (h : IR k e w base v xs) (hb : ∀ g, v.ownBlock = some g → w'.heap[g]? = w.heap[g]?) : IR k e w' base v xs := by
  obtain ⟨h1, inn, ho2, hr⟩ := h
  exact ⟨h1, inn, own_move ho2 hb, hr⟩
/-- append(v, p) -/
theorem ir_app1 {w0 W : World} (base : Nat) (k : IntKind) (bytes : Nat) (e t : Nat) (hinfo : (P.info? e).map (fun i => (i.zero, i.size, i.bytes)) = some (some (.int k 0), 1, bytes)) (ht : P.underlying t = some (.slice e))
    (hb0 : 0 < bytes) (hgd : o.guard = none) (s x : Operand) (ho : o.op = .call { callee := .builtin .append, args := #[s, x], argTypes := #[t, t] })
    (v : Value) (xs : List Int) (p : Int) (hs : a.eval s = v) (hx : a.eval x = .slice (some ⟨W.heap.size, 0, none⟩) 1 1)
    (HO : IR k e W base v xs) (HB : Below base w0 W) (hbase : base ≤ W.heap.size) (hl : (xs.length + 1) * bytes ≤ 140737488355328)
    (h : ∀ v1 w1, IR k e w1 base v1 (xs ++ [p]) → Below base w0 w1 → W.grownBy w1 v.ownBlock → (v1.ownBlock = v.ownBlock ∨ ∃ b, v1.ownBlock = some b ∧ W.heap.size ≤ b) → wpList P ops Q rest (a.put o.dst v1) w1) :
    wpList P ops Q (o :: rest) a (W.alloc (.cells #[.int k p] e)) :=
  Kd.R_append (Kd.int k) base hgd s x t e _ bytes ho ht hinfo rfl (show 0 < 1 by decide) hb0 v xs p [.int k p] Any (fun _ => False) hs hx rfl (fun _ h => h.elim) (fun _ _ => trivial) HO HB hbase hl h
theorem ir_keep {k : IntKind} {e base : Nat} {w w1 : World} {v : Value} {xs : List Int} {row : Option Nat} (h : IR k e w base v xs) (hg : w.grownBy w1 row) (hne : ∀ g, v.ownBlock = some g → some g ≠ row) : IR k e w1 base v xs :=
  ir_of_block h (fun g e => hg.block g (Kd.R_lt h g e) (hne g e))
end
end Go.Proofs.Ytfkfdaammlffmaa
