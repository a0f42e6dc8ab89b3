import Derived.Test.YtlifinlideiloaaK3
import Derived.WideKeyEntry
/-! m[k] = v among several assignments: the entry is made ready first, the value stored behind it. -/
namespace Go.Proofs.Ytlifinlideiloaa
set_option linter.unusedVariables false
set_option linter.unusedSimpArgs false
open Go.RowKit
open Go.Proofs.YtlifinlideiloaaW.PrintWords
open Go.Maps (Keyed)
open Go.WideElems Go.ChangeShapes Go.WideShapes Go.MapKept Go.ChangeMaps

theorem entry_ready {P : Program} {w : World} {t k e : TypeId} {b n : Nat} {R : Value → Option (DataW Unit × List MemPlace)} {D : DataW Unit} (K : Keyed P k) (ht : P.underlying t = some (.map k e)) {z : Value} (hz : ∀ u : World, (zeroValue e).run P u = .ok z u)
    (h : w.ownsMap P k R b n D) {key : Value} {kl : Lit} (hkey : keyOf P k key = some kl) :
    ∃ (v0 : Value) (st : Nat) (w1 : World), (Instr.mapEntry t (.map (some b)) key).run P w = .ok (.tuple #[v0, goInt st]) w1 ∧ w.grownBy w1 (some b) ∧
      ∀ (w2 : World) (val : Value), w2.heap[b]? = w1.heap[b]? → ∃ w3 w', (Instr.entryStore t (.map (some b)) (goInt st) val).run P w2 = .ok () w3 ∧ w2.grownBy w3 (some b) ∧
        (Instr.mapUpdate t (.map (some b)) key val).run P w = .ok () w' ∧ w3.heap[b]? = w'.heap[b]? := by
  obtain ⟨es, clock, hb, F, hs, rfl⟩ := h
  obtain ⟨s1, s2, _⟩ := F.stamped
  have grown : ∀ (u : World) (o : Obj) (es' : Array MapEntry) (c' : Nat), u.heap[b]? = some (.map es' c') → u.grownBy (setBlock u b o) (some b) := fun u o es' c' hu => ⟨rfl, rfl, rfl, by simp [setBlock], fun i _ hi => heap_setBlock_other hu _ (fun e => hi (by rw [e]))⟩
  rcases K.find w hkey es.toList F.keys with ⟨h1, h2⟩ | ⟨j, e0, h1, h2, h3⟩
  · -- the key is new: an entry with the zero value is put behind the others
    have hb1 := heap_setBlock_same hb (.map (es.push ⟨key, z, clock⟩) (clock + 1))
    refine ⟨z, clock, setBlock w b (.map (es.push ⟨key, z, clock⟩) (clock + 1)), ?_, grown _ _ _ _ hb, fun w2 val hw2 => ?_⟩
    · simp [Instr.mapEntry, run_underlying ht, MapKept.run_getObj_map hb, K.check w false hkey, h1, hz, MapKept.run_setObj_map _ hb, Result.andThen, setBlock]
    · rw [hb1] at hw2
      refine ⟨setBlock w2 b (.map (es.push ⟨key, val, clock⟩) (clock + 1)), setBlock w b (.map (es.push ⟨key, val, clock⟩) (clock + 1)), ?_, grown _ _ _ _ hw2, ?_, by rw [heap_setBlock_same hw2, heap_setBlock_same hb]⟩
      · have hlast : (es.push ⟨key, z, clock⟩).toList[es.size]? = some ⟨key, z, clock⟩ := by simp
        have hnd : ((es.push ⟨key, z, clock⟩).toList.map (·.born)).Nodup := by
          simp only [Array.toList_push, List.map_append, List.map_cons, List.map_nil]
          refine List.nodup_append.2 ⟨s2, by simp, ?_⟩
          intro a ha c hc e1
          obtain ⟨x, hx, rfl⟩ := List.mem_map.1 ha
          have := s1 x hx
          simp only [List.mem_singleton] at hc
          omega
        have hidx := findIdx_born hnd hlast
        rw [← findIdx_arr] at hidx
        have hmod : (es.push ⟨key, z, clock⟩).modify es.size (fun e => { e with val := val }) = es.push ⟨key, val, clock⟩ := by
          apply Array.ext'
          rw [Array.toList_modify, Array.toList_push, Array.toList_push, ← Array.length_toList, modify_last]
        simp [Instr.entryStore, MapKept.run_getObj_map hw2, asInt, asIntOf, goInt, hidx, hmod, MapKept.run_setObj_map _ hw2, Result.andThen, setBlock]
      · simp [Instr.mapUpdate, run_underlying ht, MapKept.run_getObj_map hb, K.check w false hkey, h1, MapKept.run_setObj_map _ hb, Result.andThen, setBlock]
  · -- the key is there already
    have hj : es[j]? = some e0 := by simpa using h2
    have hsame : es.modify j (fun e => { e with key := key }) = es := by
      apply Array.ext'
      rw [Array.toList_modify, modify_eq_set _ _ _ _ h2, show ({ e0 with key := key } : MapEntry) = e0 by rw [← h3]]
      exact set_self _ _ _ h2
    have hb1 := heap_setBlock_same hb (.map es clock)
    refine ⟨e0.val, e0.born, setBlock w b (.map es clock), ?_, grown _ _ _ _ hb, fun w2 val hw2 => ?_⟩
    · simp [Instr.mapEntry, run_underlying ht, MapKept.run_getObj_map hb, K.check w false hkey, h1, hj, h3, K.stays w hkey, hsame, MapKept.run_setObj_map _ hb, Result.andThen, setBlock]
    · rw [hb1] at hw2
      refine ⟨setBlock w2 b (.map (es.modify j (fun e' => { e' with key := key, val := val })) clock), setBlock w b (.map (es.modify j (fun e' => { e' with key := key, val := val })) clock), ?_, grown _ _ _ _ hw2, ?_, by rw [heap_setBlock_same hw2, heap_setBlock_same hb]⟩
      · have hidx := findIdx_born s2 h2
        rw [← findIdx_arr] at hidx
        have hmod : es.modify j (fun e => { e with val := val }) = es.modify j (fun e' => { e' with key := key, val := val }) := by
          apply Array.ext'
          rw [Array.toList_modify, Array.toList_modify, modify_eq_set _ _ _ _ h2, modify_eq_set _ _ _ _ h2, ← h3]
        simp [Instr.entryStore, MapKept.run_getObj_map hw2, asInt, asIntOf, goInt, hidx, hmod, MapKept.run_setObj_map _ hw2, Result.andThen, setBlock]
      · simp [Instr.mapUpdate, run_underlying ht, MapKept.run_getObj_map hb, K.check w false hkey, h1, hj, h3, K.stays w hkey, MapKept.run_setObj_map _ hb, Result.andThen, setBlock]

section
variable {P : Program} {ops : Array Oper} {rest : List Oper} {o : Oper} {a : Act} {Q : Exit → Act → World → Prop}
/-- what is known behind the entry's making ready: the store behind it is the map's -/
def ReadyI (P : Program) (t k e : TypeId) (q : IntKind) (w1 : World) (b n st : Nat) (i : Int) (l : PL) : Prop :=
  ∀ (w2 : World) (c : Int), (Lit.int q c).wf = true → w2.heap[b]? = w1.heap[b]? → ∃ w3, (Instr.entryStore t (.map (some b)) (goInt st) (.int q c)).run P w2 = .ok () w3 ∧ IM P k e q w3 b (n + 1) (putL i c l) ∧ w2.grownBy w3 (some b)
theorem im_entry (w : World) (hg : o.guard = none) (m x : Operand) (t : TypeId) (hop : o.op = Op.mapEntry t m x)
    (k e : TypeId) (q : IntKind) (hk : P.underlying k = some (.int .i64)) (ht : P.underlying t = some (.map k e)) (he : P.underlying e = some (.int q)) {z : Value} (hz : ∀ u : World, (zeroValue e).run P u = .ok z u) (b n : Nat) (l : PL)
    (hm : a.eval m = .map (some b)) (hown : IM P k e q w b n l) (hn : n < maxLen) (i : Int) (hx : a.eval x = .int .i64 i) (hw : (Lit.int .i64 i).wf = true)
    (hK : ∀ v0 st w1, ReadyI P t k e q w1 b n st i l → w.grownBy w1 (some b) → wpList P ops Q rest (a.put o.dst (.tuple #[v0, goInt st])) w1) :
    wpList P ops Q (o :: rest) a w := by
  refine wpList_plain hg fun K' hK' => ?_
  obtain ⟨v0, st, w1, hrun, hg1, hS⟩ := entry_ready (Maps.int_keyed hk) ht hz hown (Maps.keyOf_int_mk hk hw)
  unfold Oper.wp
  simp [execOp, hop, hm, hx, hrun, Result.andThen]
  refine hK' _ _ (hK v0 st w1 (fun w2 c hc hw2 => ?_) hg1)
  obtain ⟨w3, w', h3, hg3, hu, hb3⟩ := hS w2 (.int q c) hw2
  obtain ⟨w'', hu', ho', -⟩ := World.ownsMap.update hown (Maps.int_keyed hk) ht hn (Maps.keyOf_int_mk hk hw) (plainElem_int he hc)
  rw [hu] at hu'
  injection hu' with _ hu'
  subst hu'
  rw [MD_put] at ho'
  exact ⟨w3, h3, im_of_block ho' hb3, hg3⟩
/-- the store behind it -/
theorem im_store (w : World) (hg : o.guard = none) (m s x : Operand) (t : TypeId) (hop : o.op = Op.entryStore t m s x)
    (k e : TypeId) (q : IntKind) (w1 : World) (b n st : Nat) (i c : Int) (l : PL) (hr : ReadyI P t k e q w1 b n st i l) (hb : w.heap[b]? = w1.heap[b]?)
    (hm : a.eval m = .map (some b)) (hs : a.eval s = goInt st) (hx : a.eval x = .int q c) (hc : (Lit.int q c).wf = true)
    (hK : ∀ w', IM P k e q w' b (n + 1) (putL i c l) → w.grownBy w' (some b) → wpList P ops Q rest (a.put o.dst undef) w') :
    wpList P ops Q (o :: rest) a w := by
  refine wpList_plain hg fun K' hK' => ?_
  obtain ⟨w3, hrun, h3, hg3⟩ := hr w c hc hb
  unfold Oper.wp
  simp [execOp, hop, hm, hs, hx, hrun, Result.andThen]
  exact hK' _ _ (hK w3 h3 hg3)
theorem insL_last (x : Int × Int) (l : PL) (h : ∀ y ∈ l, y.1 < x.1) : insL x l = l ++ [x] := by
  induction l with
  | nil => rfl
  | cons y l ih =>
    have := h y List.mem_cons_self
    rw [insL, if_neg (by omega), ih (fun z hz => h z (List.mem_cons_of_mem _ hz))]
    rfl
theorem putL_last (l : PL) (hs : Srt l) (k : Nat) (h : k < l.length) : putL l[k].1 l[k].2 (l.take k) = l.take (k + 1) := by
  have hlt : ∀ y ∈ l.take k, y.1 < l[k].1 := by
    intro y hy
    obtain ⟨j, hj, rfl⟩ := List.getElem_of_mem hy
    have hjk : j < k := by simp at hj; omega
    rw [List.getElem_take]
    exact List.pairwise_iff_getElem.1 hs j k (by omega) h hjk
  unfold putL
  have hst : strL l[k].1 (l.take k) = l.take k := List.filter_eq_self.2 (fun y hy => by have := hlt y hy; simp; omega)
  rw [hst, insL_last _ _ hlt, List.take_add_one, List.getElem?_eq_getElem h]
  rfl
end
end Go.Proofs.Ytlifinlideiloaa
