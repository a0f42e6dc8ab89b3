import Derived.Test.YtfkfdaammlffmaaNO
/-! A clone of a medium under way, in plain words. -/
namespace Go.Proofs.Ytfkfdaammlffmaa
set_option linter.unusedVariables false
set_option linter.unusedSimpArgs false
open Go.RowKit Go.Proofs
open Go.Proofs.YtfkfdaammlffmaaW.PrintWords

theorem SecAt.below {w w' : World} {s : Sf} {x : Sec} (h : SecAt w s x) (hb : Below w.heap.size w w') : SecAt w' s x := ⟨h.st, h.ct, h.raw, h.er.below hb, h.ch.below hb⟩
/-- the first k sectors of the clone have maps of their own -/
structure CR (w wr : World) (t' g' cap' : Nat) (M : Med) (S Sk : List Sf) (sv lv : Value) (k : Nat) : Prop where
  mb : MB wr w.heap.size t' g' cap' M.kd M.en Sk sv lv
  len : Sk.length = S.length
  lo : ∀ j, j < k → SecAt wr (Sk.getD j sf0) (M.L.getD j sec0)
  hi : ∀ j, k ≤ j → Sk.getD j sf0 = S.getD j sf0
  nw : ∀ p b, p / 2 < k → blkOf Sk p = some b → w.heap.size ≤ b
  inj : ∀ p q b, p / 2 < k → q / 2 < k → blkOf Sk p = some b → blkOf Sk q = some b → p = q
  bl : Below w.heap.size w wr
theorem CR.lt {w wr : World} {t' g' cap' : Nat} {M : Med} {S Sk : List Sf} {sv lv : Value} {k : Nat} (h : CR w wr t' g' cap' M S Sk sv lv k) {p b : Nat} (hp : p / 2 < k) (e : blkOf Sk p = some b) : b < wr.heap.size ∧ ∃ (es : Array MapEntry) (cl : Nat), wr.heap[b]? = some (Obj.map es cl) := by
  have hs := h.lo _ hp
  have : ∃ (es : Array MapEntry) (cl : Nat), wr.heap[b]? = some (Obj.map es cl) := by
    unfold blkOf at e
    split at e
    · exact hs.er.is_map e
    · exact hs.ch.is_map e
  obtain ⟨es, cl, hh⟩ := this
  exact ⟨(Array.getElem?_eq_some_iff.1 hh).1, es, cl, hh⟩
theorem CR.step {w wr w4 w5 : World} {t' g' cap' : Nat} {M : Med} {S Sk : List Sf} {sv lv : Value} {k : Nat} (h : CR w wr t' g' cap' M S Sk sv lv k) (hk : k < S.length) {er' ch' : Option Nat} {s : Sf} (hs : S.getD k sf0 = s)
    (hx : SecAt wr s (M.L.getD k sec0)) (hb4 : Below wr.heap.size wr w4) (hb5 : Below w4.heap.size w4 w5) (he : HasSet w5 er' (M.L.getD k sec0).le) (hc : HasMap w5 ch' (M.L.getD k sec0).lc) (hne : NewB wr w4 er') (hnc : NewB w4 w5 ch') :
    CR w ((w5.setCell ⟨g', k * 5 + 3, none⟩ (.map er')).setCell ⟨g', k * 5 + 4, none⟩ (.map ch')) t' g' cap' M S (Sk.set k ⟨s.st, s.ct, s.raw, er', ch'⟩) sv lv (k + 1) := by
  have hb := below_step hb4 hb5
  have hm5 := h.mb.below hb
  have hkk : k < Sk.length := by rw [h.len]; exact hk
  have hsk : Sk[k]? = some s := by
    have := h.hi k (Nat.le_refl _)
    rw [hs, List.getD_eq_getElem?_getD, List.getElem?_eq_getElem hkk] at this
    rw [List.getElem?_eq_getElem hkk]
    exact congrArg some this
  have r1 := sf_put hm5.row k hkk s ⟨s.st, s.ct, s.raw, er', s.ch⟩ hsk 3 (.map er') rfl (by decide) rfl
  have r2 := sf_put r1 k hkk ⟨s.st, s.ct, s.raw, er', s.ch⟩ ⟨s.st, s.ct, s.raw, er', ch'⟩ (by simp [hkk]) 4 (.map ch') rfl (by decide) rfl
  rw [List.set_set] at r2
  have hbt : But g' g' w5 ((w5.setCell ⟨g', k * 5 + 3, none⟩ (.map er')).setCell ⟨g', k * 5 + 4, none⟩ (.map ch')) := ((But.refl g' g' w5).set (p := ⟨g', k * 5 + 3, none⟩) rfl _).set (p := ⟨g', k * 5 + 4, none⟩) rfl _
  have hm7 : MB ((w5.setCell ⟨g', k * 5 + 3, none⟩ (.map er')).setCell ⟨g', k * 5 + 4, none⟩ (.map ch')) w.heap.size t' g' cap' M.kd M.en (Sk.set k ⟨s.st, s.ct, s.raw, er', ch'⟩) sv lv :=
    ⟨by rw [List.length_set]; exact (hbt.block t' hm5.lt hm5.ne hm5.ne).trans hm5.blk, by rw [List.length_set]; exact r2, hm5.ne, hm5.bt⟩
  have hmk : ∀ b : Nat, (∃ (es : Array MapEntry) (cl : Nat), w5.heap[b]? = some (Obj.map es cl)) → ((w5.setCell ⟨g', k * 5 + 3, none⟩ (.map er')).setCell ⟨g', k * 5 + 4, none⟩ (.map ch')).heap[b]? = w5.heap[b]? := by
    rintro b ⟨es, cl, hh⟩
    exact hbt.block b (Array.getElem?_eq_some_iff.1 hh).1 (hm5.gmap hh) (hm5.gmap hh)
  have hget : ∀ j, j ≠ k → (Sk.set k ⟨s.st, s.ct, s.raw, er', ch'⟩).getD j sf0 = Sk.getD j sf0 := fun j hj => by rw [List.getD_eq_getElem?_getD, List.getElem?_set_ne (Ne.symm hj), ← List.getD_eq_getElem?_getD]
  have hgk : (Sk.set k ⟨s.st, s.ct, s.raw, er', ch'⟩).getD k sf0 = ⟨s.st, s.ct, s.raw, er', ch'⟩ := by simp [List.getD_eq_getElem?_getD, hkk]
  have hwl : w.heap.size ≤ wr.heap.size := h.bl.size
  have hsz4 : wr.heap.size ≤ w4.heap.size := hb4.size
  have hblk : ∀ p b, p / 2 < k + 1 → blkOf (Sk.set k ⟨s.st, s.ct, s.raw, er', ch'⟩) p = some b → (p / 2 < k ∧ blkOf Sk p = some b ∧ b < wr.heap.size) ∨ (p = 2 * k ∧ wr.heap.size ≤ b ∧ b < w4.heap.size) ∨ (p = 2 * k + 1 ∧ w4.heap.size ≤ b) := fun p b hp e => by
    by_cases ep : p / 2 = k
    · unfold blkOf at e
      rw [ep, hgk] at e
      split at e
      · have := hne b e; exact .inr (.inl ⟨by omega, this.1, this.2⟩)
      · have := hnc b e; exact .inr (.inr ⟨by omega, this.1⟩)
    · have e2 : blkOf Sk p = some b := by unfold blkOf at e ⊢; rw [hget _ ep] at e; exact e
      exact .inl ⟨by omega, e2, (h.lt (by omega) e2).1⟩
  refine ⟨hm7, by rw [List.length_set]; exact h.len, fun j hj => ?_, fun j hj => ?_, fun p b hp e => ?_, fun p q b hp hq e1 e2 => ?_, ?_⟩
  · by_cases ej : j = k
    · subst ej
      rw [hgk]
      exact ⟨hx.st, hx.ct, hx.raw, he.of_block (fun b e => hmk b (he.is_map e)), hc.of_block (fun b e => hmk b (hc.is_map e))⟩
    · rw [hget j ej]
      have := (h.lo j (by omega)).below hb
      exact ⟨this.st, this.ct, this.raw, this.er.of_block (fun b e => hmk b (this.er.is_map e)), this.ch.of_block (fun b e => hmk b (this.ch.is_map e))⟩
  · rw [hget j (by omega)]
    exact h.hi j (by omega)
  · rcases hblk p b hp e with ⟨h1, h2, h3⟩ | ⟨h1, h2, h3⟩ | ⟨h1, h2⟩
    · exact h.nw p b h1 h2
    · omega
    · omega
  · rcases hblk p b hp e1 with ⟨h1, h2, h3⟩ | ⟨h1, h2, h3⟩ | ⟨h1, h2⟩ <;> rcases hblk q b hq e2 with ⟨k1, k2, k3⟩ | ⟨k1, k2, k3⟩ | ⟨k1, k2⟩
    · exact h.inj p q b h1 k1 h2 k2
    · omega
    · omega
    · omega
    · omega
    · omega
    · omega
    · omega
    · omega
  · exact But.below (below_step h.bl hb) hbt (by have := hb.size; omega) hm5.gbase hm5.gbase
/-- the clone is a medium -/
theorem CR.done {w wr w' : World} {t' g' cap' : Nat} {M : Med} {S Sk : List Sf} {sv lv sv' lv' : Value} (h : CR w wr t' g' cap' M S Sk sv lv S.length) (hlen : S.length = M.L.length) (hm : MB w' w.heap.size t' g' cap' M.kd M.en Sk sv' lv') (hbt : But t' t' wr w')
    (hp : PV w' w.heap.size sv' M.sc) (hl : LM w' w.heap.size lv' (offM M)) (hn : ∀ x, lv' = .map (some x) → wr.heap.size ≤ x) : MedAt w' w.heap.size t' M g' cap' Sk sv' lv' := by
  have hp2 : ∀ p b, blkOf Sk p = some b → p / 2 < S.length := fun p b e => by have := blkOf_lt e; rw [h.len] at this; exact this
  refine ⟨hm, hp, hl, h.len.trans hlen, fun i hi => ?_, fun p q b e1 e2 => h.inj p q b (hp2 p b e1) (hp2 q b e2) e1 e2, fun p b e e2 => ?_, fun p b e => h.nw p b (hp2 p b e) e⟩
  · have hs := h.lo i (by rw [h.len] at hi; exact hi)
    have hmk : ∀ b : Nat, (∃ (es : Array MapEntry) (cl : Nat), wr.heap[b]? = some (Obj.map es cl)) → w'.heap[b]? = wr.heap[b]? := by
      rintro b ⟨es, cl, hh⟩
      have ht : b ≠ t' := fun e => by rw [e, h.mb.blk] at hh; cases hh
      exact hbt.block b (Array.getElem?_eq_some_iff.1 hh).1 ht ht
    exact ⟨hs.st, hs.ct, hs.raw, hs.er.of_block (fun b e => hmk b (hs.er.is_map e)), hs.ch.of_block (fun b e => hmk b (hs.ch.is_map e))⟩
  · have := (h.lt (hp2 p b e) e).1
    have := hn b e2
    omega
end Go.Proofs.Ytfkfdaammlffmaa
