import Derived.Test.YtfkfdaammlffmaaNH
/-! The maps of a sector are made; a sector is damaged. -/
namespace Go.Proofs.Ytfkfdaammlffmaa
set_option linter.unusedVariables false
set_option linter.unusedSimpArgs false
open Go.RowKit Go.Proofs
open Go.Proofs.YtfkfdaammlffmaaW.PrintWords

theorem put_map {w : World} {base t g cap : Nat} {kd en : Int} {S : List Sf} {sv lv : Value} (h : MB w base t g cap kd en S sv lv) (k : Nat) (hk : k < S.length) (s s' : Sf) (hs : S[k]? = some s) (j : Nat)
    (hv : [.int .i64 s'.st, .int .i64 s'.ct, .string s'.raw, .map s'.er, .map s'.ch] = ([.int .i64 s.st, .int .i64 s.ct, .string s.raw, .map s.er, .map s.ch] : List Value).set j (.map (some w.heap.size))) (hj : j < 5) :
    MB ((w.setCell ⟨g, k * 5 + j, none⟩ (.map (some w.heap.size))).alloc (.map #[] 0)) base t g cap kd en (S.set k s') sv lv ∧ ((w.setCell ⟨g, k * 5 + j, none⟩ (.map (some w.heap.size))).alloc (.map #[] 0)).heap[w.heap.size]? = some (.map #[] 0) ∧
      But g g w ((w.setCell ⟨g, k * 5 + j, none⟩ (.map (some w.heap.size))).alloc (.map #[] 0)) := by
  have r1 := sf_put h.row k hk s s' hs j (.map (some w.heap.size)) hv hj rfl
  have hb0 : But g g w (w.setCell ⟨g, k * 5 + j, none⟩ (.map (some w.heap.size))) := (But.refl g g w).set (p := ⟨g, k * 5 + j, none⟩) rfl _
  have hz : (w.setCell ⟨g, k * 5 + j, none⟩ (.map (some w.heap.size))).heap.size = w.heap.size := by simp [World.setCell]
  have hm : MB (w.setCell ⟨g, k * 5 + j, none⟩ (.map (some w.heap.size))) base t g cap kd en (S.set k s') sv lv :=
    ⟨by rw [List.length_set]; exact (hb0.block t h.lt h.ne h.ne).trans h.blk, by rw [List.length_set]; exact r1, h.ne, h.bt⟩
  have hba := (Below.refl (w.setCell ⟨g, k * 5 + j, none⟩ (.map (some w.heap.size))).heap.size (w.setCell ⟨g, k * 5 + j, none⟩ (.map (some w.heap.size)))).alloc (Nat.le_refl _) (.map #[] 0)
  refine ⟨hm.below hba, ?_, hb0.trans (But.of_below hba)⟩
  have := heap_alloc_new (w.setCell ⟨g, k * 5 + j, none⟩ (.map (some w.heap.size))) (.map #[] 0)
  rw [hz] at this
  exact this
theorem MedAt.dam {w w' : World} {base t g cap : Nat} {M : Med} {S : List Sf} {sv lv : Value} (h : MedAt w base t M g cap S sv lv) {k be bc : Nat} {le' lc' : PL} {s : Sf} (hk : k < S.length) (hs : S.getD k sf0 = s)
    (hm : MB w' base t g cap M.kd M.en (S.set k ⟨s.st, s.ct, s.raw, some be, some bc⟩) sv lv) (hle : HasSet w' (some be) le') (hlc : HasMap w' (some bc) lc') (T : Tn (fun j => j = g ∨ j = be ∨ j = bc) w w')
    (he : s.er = some be ∨ w.heap.size ≤ be) (hc : s.ch = some bc ∨ w.heap.size ≤ bc) (hne : be ≠ bc) :
    After w w' base t (M.put k { (M.L.getD k sec0) with le := le', lc := lc' }) (Own t g S lv) := by
  have hbase : base ≤ w.heap.size := by have := h.mb.bt; have := h.mb.lt; omega
  have k1 : ∀ b, s.er = some b → blkOf S (2 * k) = some b := fun b e => by
    unfold blkOf
    rw [if_pos (by omega), show 2 * k / 2 = k by omega, hs]; exact e
  have k2 : ∀ b, s.ch = some b → blkOf S (2 * k + 1) = some b := fun b e => by
    unfold blkOf
    rw [if_neg (by omega), show (2 * k + 1) / 2 = k by omega, hs]; exact e
  -- an old map's block that is none of sector k's is kept
  have hold : ∀ p b, blkOf S p = some b → p / 2 ≠ k → b ≠ be ∧ b ≠ bc := fun p b e hp => by
    obtain ⟨es, cl, hh⟩ := h.blk_map e
    have hlt := (Array.getElem?_eq_some_iff.1 hh).1
    refine ⟨fun e2 => ?_, fun e2 => ?_⟩
    · rcases he with he | he
      · have := h.inj p (2 * k) b e (k1 b (by rw [e2]; exact he)); omega
      · omega
    · rcases hc with hc | hc
      · have := h.inj p (2 * k + 1) b e (k2 b (by rw [e2]; exact hc)); omega
      · omega
  have hkeep : ∀ p b, blkOf S p = some b → p / 2 ≠ k → w'.heap[b]? = w.heap[b]? := fun p b e hp => by
    obtain ⟨es, cl, hh⟩ := h.blk_map e
    obtain ⟨a1, a2⟩ := hold p b e hp
    exact T.block b (Array.getElem?_eq_some_iff.1 hh).1 (fun hx => by
      rcases hx with h1 | h1 | h1
      · exact h.mb.gmap hh h1
      · exact a1 h1
      · exact a2 h1)
  -- the maps of the new row
  have hblk : ∀ p b, blkOf (S.set k ⟨s.st, s.ct, s.raw, some be, some bc⟩) p = some b → (p / 2 ≠ k ∧ blkOf S p = some b) ∨ (p = 2 * k ∧ b = be) ∨ (p = 2 * k + 1 ∧ b = bc) := fun p b e => by
    unfold blkOf at e
    by_cases ep : p / 2 = k
    · have hg : (S.set k ⟨s.st, s.ct, s.raw, some be, some bc⟩).getD (p / 2) sf0 = ⟨s.st, s.ct, s.raw, some be, some bc⟩ := by rw [ep]; simp [List.getD_eq_getElem?_getD, hk]
      rw [hg] at e
      split at e
      · injection e with e; exact .inr (.inl ⟨by omega, e.symm⟩)
      · injection e with e; exact .inr (.inr ⟨by omega, e.symm⟩)
    · have hg : (S.set k ⟨s.st, s.ct, s.raw, some be, some bc⟩).getD (p / 2) sf0 = S.getD (p / 2) sf0 := by simp [List.getD_eq_getElem?_getD, List.getElem?_set, Ne.symm ep]
      rw [hg] at e
      exact .inl ⟨ep, e⟩
  have hebase : base ≤ be := by
    rcases he with he | he
    · exact h.low _ _ (k1 be he)
    · omega
  have hcbase : base ≤ bc := by
    rcases hc with hc | hc
    · exact h.low _ _ (k2 bc hc)
    · omega
  have hlbe : lv ≠ .map (some be) ∧ lv ≠ .map (some bc) := by
    have hold2 : ∀ x, lv = .map (some x) → x < w.heap.size := fun x e => (h.own_obj (.inr (.inr (.inr e)))).1
    refine ⟨fun e => ?_, fun e => ?_⟩
    · rcases he with he | he
      · exact h.lb _ _ (k1 be he) e
      · have := hold2 _ e; omega
    · rcases hc with hc | hc
      · exact h.lb _ _ (k2 bc hc) e
      · have := hold2 _ e; omega
  have hty : ∀ j, (j = g ∨ j = be ∨ j = bc) → j < w.heap.size → ∀ cur, w.heap[j]? ≠ some (.cells cur 3 (0, 0)) ∧ w.heap[j]? ≠ some (.cells cur 36 (0, 0)) := fun j hj hlt => by
    refine (h.own_obj ?_).2.2
    rcases hj with h1 | h1 | h1
    · exact .inr (.inl h1)
    · rcases he with he | he
      · exact .inr (.inr (.inl ⟨_, k1 j (by rw [h1]; exact he)⟩))
      · omega
    · rcases hc with hc | hc
      · exact .inr (.inr (.inl ⟨_, k2 j (by rw [h1]; exact hc)⟩))
      · omega
  refine ⟨g, cap, S.set k ⟨s.st, s.ct, s.raw, some be, some bc⟩, sv, lv, ⟨hm, ?_, ?_, by simp [Med.put, h.len], fun i hi => ?_, fun p q b hp hq => ?_, fun p b hp => ?_, fun p b hp => ?_⟩, fun j hj => ?_, T.mono (fun j hlt hj => ?_)⟩
  · refine h.pv.of_block (fun j e => ?_)
    obtain ⟨-, hj2, cur, hj3⟩ := h.pv.lt j e
    exact T.block j hj2 (fun hy => (hty j hy hj2 cur).2 hj3)
  · have ho : offM (M.put k { (M.L.getD k sec0) with le := le', lc := lc' }) = offM M := by unfold offM Med.put; simp
    rw [ho]
    refine h.lm.keep (fun b es cl hh e => ?_) (fun j cur hh => ?_) T.size
    · refine T.block b (Array.getElem?_eq_some_iff.1 hh).1 (fun hy => ?_)
      rcases hy with h1 | h1 | h1
      · exact h.mb.gmap hh h1
      · exact hlbe.1 (by rw [← h1]; exact e)
      · exact hlbe.2 (by rw [← h1]; exact e)
    · have hj2 := (Array.getElem?_eq_some_iff.1 hh).1
      exact T.block j hj2 (fun hy => (hty j hy hj2 cur).1 hh)
  · rw [List.length_set] at hi
    by_cases ei : i = k
    · subst ei
      have hg : (S.set i ⟨s.st, s.ct, s.raw, some be, some bc⟩).getD i sf0 = ⟨s.st, s.ct, s.raw, some be, some bc⟩ := by simp [List.getD_eq_getElem?_getD, hi]
      have hg2 : (M.L.set i { (M.L.getD i sec0) with le := le', lc := lc' }).getD i sec0 = { (M.L.getD i sec0) with le := le', lc := lc' } := by rw [List.getD_eq_getElem?_getD, List.getElem?_set]; simp [← h.len, hi]
      show SecAt w' _ ((M.L.set i { (M.L.getD i sec0) with le := le', lc := lc' }).getD i sec0)
      rw [hg, hg2]
      have := h.sec i hi
      rw [hs] at this
      exact ⟨this.st, this.ct, this.raw, hle, hlc⟩
    · have hg : (S.set k ⟨s.st, s.ct, s.raw, some be, some bc⟩).getD i sf0 = S.getD i sf0 := by simp [List.getD_eq_getElem?_getD, List.getElem?_set, Ne.symm ei]
      have hg2 : (M.L.set k { (M.L.getD k sec0) with le := le', lc := lc' }).getD i sec0 = M.L.getD i sec0 := by rw [List.getD_eq_getElem?_getD, List.getElem?_set_ne (Ne.symm ei), ← List.getD_eq_getElem?_getD]
      show SecAt w' _ ((M.L.set k { (M.L.getD k sec0) with le := le', lc := lc' }).getD i sec0)
      rw [hg, hg2]
      obtain ⟨e1, e2, e3, e4, e5⟩ := h.sec i hi
      refine ⟨e1, e2, e3, e4.of_block (fun b e => hkeep (2 * i) b ?_ (by omega)), e5.of_block (fun b e => hkeep (2 * i + 1) b ?_ (by omega))⟩
      · unfold blkOf
        rw [if_pos (by omega), show 2 * i / 2 = i by omega]; exact e
      · unfold blkOf
        rw [if_neg (by omega), show (2 * i + 1) / 2 = i by omega]; exact e
  · rcases hblk p b hp with ⟨p1, p2⟩ | ⟨p1, p2⟩ | ⟨p1, p2⟩ <;> rcases hblk q b hq with ⟨q1, q2⟩ | ⟨q1, q2⟩ | ⟨q1, q2⟩
    · exact h.inj p q b p2 q2
    · exact absurd q2 (hold p b p2 p1).1
    · exact absurd q2 (hold p b p2 p1).2
    · exact absurd p2 (hold q b q2 q1).1
    · omega
    · exact absurd (p2.symm.trans q2) hne
    · exact absurd p2 (hold q b q2 q1).2
    · exact absurd (q2.symm.trans p2) hne
    · omega
  · rcases hblk p b hp with ⟨p1, p2⟩ | ⟨p1, p2⟩ | ⟨p1, p2⟩
    · exact h.lb p b p2
    · rw [p2]; exact hlbe.1
    · rw [p2]; exact hlbe.2
  · rcases hblk p b hp with ⟨p1, p2⟩ | ⟨p1, p2⟩ | ⟨p1, p2⟩
    · exact h.low p b p2
    · rw [p2]; exact hebase
    · rw [p2]; exact hcbase
  · rcases hj with h1 | h1 | ⟨p, h1⟩ | h1
    · exact .inl (.inl h1)
    · exact .inl (.inr (.inl h1))
    · rcases hblk p j h1 with ⟨p1, p2⟩ | ⟨p1, p2⟩ | ⟨p1, p2⟩
      · exact .inl (.inr (.inr (.inl ⟨p, p2⟩)))
      · rcases he with he | he
        · exact .inl (.inr (.inr (.inl ⟨_, k1 j (by rw [p2]; exact he)⟩)))
        · exact .inr (by omega)
      · rcases hc with hc | hc
        · exact .inl (.inr (.inr (.inl ⟨_, k2 j (by rw [p2]; exact hc)⟩)))
        · exact .inr (by omega)
    · exact .inl (.inr (.inr (.inr h1)))
  · rcases hj with h1 | h1 | h1
    · exact .inr (.inl h1)
    · rcases he with he | he
      · exact .inr (.inr (.inl ⟨_, k1 j (by rw [h1]; exact he)⟩))
      · omega
    · rcases hc with hc | hc
      · exact .inr (.inr (.inl ⟨_, k2 j (by rw [h1]; exact hc)⟩))
      · omega
end Go.Proofs.Ytfkfdaammlffmaa
