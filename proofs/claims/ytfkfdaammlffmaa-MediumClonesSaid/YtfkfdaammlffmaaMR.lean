import Derived.Test.YtfkfdaammlffmaaMQ
/-! The row of a medium's scratches: it is read, and grows by a copy. -/
namespace Go.Proofs.Ytfkfdaammlffmaa
set_option linter.unusedVariables false
set_option linter.unusedSimpArgs false
open Go.RowKit Go.Proofs
open Go.Proofs.YtfkfdaammlffmaaW.PrintWords

theorem add_at (b o j : Nat) : (⟨b, o, none⟩ : Addr).add j = ⟨b, o + j, none⟩ := by
  simp only [Addr.add]
  by_cases h : j = 0
  · subst h; simp
  · simp [h]
theorem info_scratch : (Try.prog.info? 36).map (fun i => (i.zero, i.size, i.bytes)) = some (some (.agg #[.int .i64 0, .int .i64 0]), 2, 16) := by kernel_rfl
def flatP (l : PL) : List Value := l.flatMap fun p => [.int .i64 p.1, .int .i64 p.2]
theorem flatP_cons (p : Int × Int) (l : PL) : flatP (p :: l) = .int .i64 p.1 :: .int .i64 p.2 :: flatP l := by simp [flatP]
theorem flatP_append (l m : PL) : flatP (l ++ m) = flatP l ++ flatP m := by simp [flatP]
theorem flatP_length (l : PL) : (flatP l).length = l.length * 2 := by
  induction l with
  | nil => rfl
  | cons p l ih => rw [flatP_cons]; simp [ih]; omega
theorem flatP_get {l : PL} {q : Nat} {u : Value} (h : (flatP l)[q]? = some u) : ∃ (j : Nat) (hj : j < l.length), (q = j * 2 ∧ u = .int .i64 (l[j]).1) ∨ (q = j * 2 + 1 ∧ u = .int .i64 (l[j]).2) := by
  induction l generalizing q with
  | nil => simp [flatP] at h
  | cons p l ih =>
    rw [flatP_cons] at h
    match q, h with
    | 0, h => exact ⟨0, by simp, .inl ⟨rfl, by simp at h; simp [h]⟩⟩
    | 1, h => exact ⟨0, by simp, .inr ⟨rfl, by simp at h; simp [h]⟩⟩
    | q + 2, h =>
      simp at h
      obtain ⟨j, hj, hh⟩ := ih h
      refine ⟨j + 1, by simp; omega, ?_⟩
      rcases hh with ⟨h1, h2⟩ | ⟨h1, h2⟩
      · exact .inl ⟨by omega, by simpa using h2⟩
      · exact .inr ⟨by omega, by simpa using h2⟩
theorem flatP_at {l : PL} {j : Nat} (hj : j < l.length) : (flatP l)[j * 2]? = some (.int .i64 (l[j]).1) ∧ (flatP l)[j * 2 + 1]? = some (.int .i64 (l[j]).2) := by
  induction l generalizing j with
  | nil => simp at hj
  | cons p l ih =>
    rw [flatP_cons]
    match j, hj with
    | 0, _ => simp
    | j + 1, hj =>
      have := @ih j (by simpa using hj)
      rw [show (j + 1) * 2 = j * 2 + 2 by omega]
      simpa using this
/-- v is a slice of a row from base on (or nil) that begins with l -/
def PV (w : World) (base : Nat) (v : Value) (l : PL) : Prop :=
  (v = .slice none 0 0 ∧ l = []) ∨ ∃ s c cur, v = .slice (some ⟨s, 0, none⟩) l.length c ∧ base ≤ s ∧ w.heap[s]? = some (.cells cur 36 (0, 0)) ∧ l.length ≤ c ∧ flatP l <+: cur.toList
theorem PV.nil (w : World) (base : Nat) : PV w base (.slice none 0 0) [] := .inl ⟨rfl, rfl⟩
theorem PV.of_block {w w' : World} {base : Nat} {v : Value} {l : PL} (h : PV w base v l) (hb : ∀ s, v.ownBlock = some s → w'.heap[s]? = w.heap[s]?) : PV w' base v l := by
  rcases h with h | ⟨s, c, cur, rfl, h1, h2, h3⟩
  · exact .inl h
  · exact .inr ⟨s, c, cur, rfl, h1, (hb s rfl).trans h2, h3⟩
theorem PV.lt {w : World} {base : Nat} {v : Value} {l : PL} (h : PV w base v l) : ∀ s, v.ownBlock = some s → base ≤ s ∧ s < w.heap.size ∧ ∃ cur, w.heap[s]? = some (.cells cur 36 (0, 0)) := by
  rcases h with ⟨rfl, -⟩ | ⟨s, c, cur, rfl, h1, h2, h3⟩
  · intro s e; simp [Value.ownBlock] at e
  · intro s' e
    simp [Value.ownBlock] at e
    subst e
    exact ⟨h1, (Array.getElem?_eq_some_iff.1 h2).1, cur, h2⟩
theorem PV.below {w w' : World} {base : Nat} {v : Value} {l : PL} (h : PV w base v l) (hb : Below w.heap.size w w') : PV w' base v l := h.of_block (fun s e => hb.block s (h.lt s e).2.1)
theorem PV.lower {w : World} {base base' : Nat} {v : Value} {l : PL} (h : PV w base v l) (hb : base' ≤ base) : PV w base' v l := by
  rcases h with h | ⟨s, c, cur, rfl, h1, h2, h3⟩
  · exact .inl h
  · exact .inr ⟨s, c, cur, rfl, by omega, h2, h3⟩
theorem cell_flat {w : World} {s : Nat} {cur : Array Value} {t : TypeId} {l : PL} (h2 : w.heap[s]? = some (.cells cur t (0, 0))) (hp : flatP l <+: cur.toList) {q : Nat} {u : Value} (hq : (flatP l)[q]? = some u) : w.cell? ⟨s, q, none⟩ = some u := by
  obtain ⟨t2, ht2⟩ := hp
  have hlt : q < (flatP l).length := (List.getElem?_eq_some_iff.1 hq).1
  have : cur.toList[q]? = some u := by rw [← ht2, List.getElem?_append_left hlt]; exact hq
  have : cur[q]? = some u := by simpa using this
  simp [World.cell?, h2, this]
theorem PV.reads {w : World} {base : Nat} {v : Value} {l : PL} (h : PV w base v l) (hl : l.length ≤ 1000000) : ∃ A c, v = .slice A l.length c ∧ l.length ≤ c ∧ PC w A l := by
  rcases h with ⟨rfl, rfl⟩ | ⟨s, c, cur, rfl, h1, h2, h3, h4⟩
  · exact ⟨none, 0, rfl, by simp, rfl, by simp, fun h => absurd h (by simp)⟩
  · refine ⟨_, c, rfl, h3, rfl, by omega, fun _ => ⟨_, rfl, fun j p hj => ?_⟩⟩
    have hjl : j < l.length := (List.getElem?_eq_some_iff.1 hj).1
    have hp : l[j] = p := (List.getElem?_eq_some_iff.1 hj).2
    obtain ⟨f1, f2⟩ := flatP_at hjl
    rw [hp] at f1 f2
    refine ⟨[.int .i64 p.1, .int .i64 p.2], rfl, ⟨[_], [_], rfl, rfl, rfl⟩, fun i u hi => ?_⟩
    show w.cell? ((⟨s, 0, none⟩ : Addr).add (j * 2 + i)) = some u
    have e : (⟨s, 0, none⟩ : Addr).add (j * 2 + i) = ⟨s, j * 2 + i, none⟩ := by rw [add_at, Nat.zero_add]
    rw [e]
    match i, hi with
    | 0, hi => injection hi with hi; subst hi; exact cell_flat h2 h4 f1
    | 1, hi => injection hi with hi; subst hi; exact cell_flat h2 h4 f2
/-- the slice cut to its length -/
def cutV : Value → Value
  | .slice A n c => .slice A n n
  | v => v
section
variable {ops : Array Oper} {rest : List Oper} {o : Oper} {a : Act} {Q : Exit → Act → World → Prop}
theorem pv_append (W : World) (base : Nat) (hgd : o.guard = none) (s x : Operand)
    (ho : o.op = .call { callee := .builtin .append, args := #[s, x], argTypes := #[22, 22] })
    (v : Value) (l0 l : PL) (A : Option Addr) (m c : Nat) (hs : a.eval s = cutV v) (hx : a.eval x = .slice A m c) (HO : PV W base v l0) (HR : PC W A l) (hm : l.length = m) (hl : l0.length + m ≤ 1000000) (hbase : base ≤ W.heap.size)
    (h : ∀ v1 w1, PV w1 base v1 (l0 ++ l) → Below W.heap.size W w1 → wpList Try.prog ops Q rest (a.put o.dst v1) w1) :
    wpList Try.prog ops Q (o :: rest) a W := by
  obtain ⟨i0, hi, hzz⟩ := Option.map_eq_some_iff.1 info_scratch
  simp only [Prod.mk.injEq] at hzz
  obtain ⟨hz0, hz1, hz2⟩ := hzz
  have ht := Try.underlying22
  have hrun : ∃ v1 w1, (Builtin.append_ #[22, 22] o.type #[cutV v, .slice A m c]).run Try.prog W = .ok v1 w1 ∧ PV w1 base v1 (l0 ++ l) ∧ Below W.heap.size W w1 := by
    rcases Nat.eq_zero_or_pos m with h0 | h0
    · subst h0
      obtain rfl : l = [] := List.eq_nil_of_length_eq_zero hm
      rw [List.append_nil]
      refine ⟨cutV v, W, ?_, ?_, Below.refl _ _⟩
      · rcases HO with ⟨rfl, rfl⟩ | ⟨g, c0, cur, rfl, -, -, hc0, -⟩
        · cases A <;> simp [cutV, Builtin.append_, run_underlying ht, sizeOf, typeInfo, hi, Builtin.lenOf, Builtin.firstCells, loadCells, loadCellsFrom]
        · cases A <;> simp [cutV, Builtin.append_, run_underlying ht, sizeOf, typeInfo, hi, Builtin.lenOf, Builtin.firstCells, loadCells, loadCellsFrom, storeCells]
      · rcases HO with ⟨rfl, rfl⟩ | ⟨g, c0, cur, rfl, h1, h2, hc0, h3⟩
        · exact .inl ⟨rfl, rfl⟩
        · exact .inr ⟨g, _, cur, rfl, h1, h2, Nat.le_refl _, h3⟩
    · obtain ⟨b, off, rfl, -⟩ := pc_cell HR 0 (by omega)
      have hnews : ∀ j u, (flatP l)[j]? = some u → W.cell? ((⟨b, off, none⟩ : Addr).add j) = some u := by
        intro j u hj
        obtain ⟨q, hq, hh⟩ := flatP_get hj
        obtain ⟨b', o', e', -, k0, k1⟩ := pc_cell HR q hq
        simp only [Option.some.injEq, Addr.mk.injEq] at e'
        obtain ⟨rfl, rfl, -⟩ := e'
        rcases hh with ⟨rfl, rfl⟩ | ⟨rfl, rfl⟩
        · rw [add_at]; exact k0
        · rw [add_at]; exact k1
      have hlen := flatP_length l
      have hbl : ∀ (cs : Array Value), Below W.heap.size W (W.drew.alloc (.cells cs 36)) := fun cs => by
        have h1 : Below W.heap.size W W.drew := below_drew1 (Below.refl _ _)
        exact h1.alloc (Nat.le_refl _) _
      rcases HO with ⟨rfl, rfl⟩ | ⟨g, c0, cur, rfl, h1, h2, hc0, h3⟩
      · have hr := run_append_nil (P := Try.prog) W 22 o.type 36 i0 _ ht hi hz0 ⟨b, off, none⟩ m c (flatP l) (by rw [hlen, hz1, hm]) hnews (by omega) (by omega) (by rw [hz2]; omega)
        refine ⟨_, _, hr, .inr ⟨W.heap.size, grownCap W m 0 36, _, ?_, hbase, heap_alloc_new W.drew _, ?_, ?_⟩, hbl _⟩
        · rw [List.nil_append, hm]
        · rw [List.nil_append, hm]; exact grownCap_ge W m 0 _
        · rw [List.nil_append]
          simp only [Array.toList_append]
          exact List.prefix_append _ _
      · have hcells : ∀ j u, (flatP l0)[j]? = some u → W.cell? ((⟨g, 0, none⟩ : Addr).add j) = some u := fun j u hj => by
          have e : (⟨g, 0, none⟩ : Addr).add j = ⟨g, j, none⟩ := by rw [add_at, Nat.zero_add]
          rw [e]
          exact cell_flat h2 h3 hj
        have hr := run_append_grow (P := Try.prog) W 22 o.type 36 i0 _ ht hi hz0 ⟨g, 0, none⟩ l0.length l0.length (flatP l0) (by rw [flatP_length, hz1]) hcells ⟨b, off, none⟩ m c (flatP l) (by rw [hlen, hz1, hm]) hnews (by omega) (by omega) (growslice_fits (by omega) (by rw [hz2]; omega))
        refine ⟨_, _, hr, .inr ⟨W.heap.size, grownCap W (l0.length + m) l0.length 36, _, ?_, hbase, heap_alloc_new W.drew _, ?_, ?_⟩, hbl _⟩
        · rw [List.length_append, hm]
        · rw [List.length_append, hm]; exact grownCap_ge W (l0.length + m) l0.length _
        · simp only [Array.toList_append, flatP_append]
          exact List.prefix_append _ _
  obtain ⟨v1, w1, hr, h2, h3⟩ := hrun
  refine wpList_plain hgd fun K hK => ?_
  unfold Oper.wp execOp
  simp only [ho, resolve, invoke, builtin, Sem.run_bind, Sem.run_pure, Result.andThen_ok, List.map_toArray, List.map_cons, List.map_nil, hs, hx, hr]
  exact hK _ _ (h v1 w1 h2 h3)
end
end Go.Proofs.Ytfkfdaammlffmaa
