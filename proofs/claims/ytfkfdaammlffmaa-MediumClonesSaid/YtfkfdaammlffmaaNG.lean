import Derived.Test.YtfkfdaammlffmaaNF
/-! Scratch, Read, Clean, State, Count, Kind, Sectors and New by contracts on the whole medium. -/
namespace Go.Proofs.Ytfkfdaammlffmaa
set_option linter.unusedVariables false
set_option linter.unusedSimpArgs false
open Go.RowKit Go.Proofs
open Go.Proofs.YtfkfdaammlffmaaW.PrintWords

theorem offM_length (M : Med) (h : M.L.length ≤ 4096) : (offM M).length ≤ 20000000 := by
  unfold offM
  have := lostS_length (goneS M.sc (98 * M.L.length + 108) M.sc.length) (98 * M.L.length)
  omega
section
variable {w w' : World} {base t g cap : Nat} {M : Med} {S : List Sf} {sv lv : Value} {N : Nat}
theorem scratchMed_any (h : MedAt w base t M g cap S sv lv) (hw : WM N M) (A : Option Addr) (c : Nat) (l : PL) (m : Nat) (hp : PC w A l) (hm : l.length = m) (hm2 : m ≤ 1000) :
    Calls Try.prog 13 #[.pointer (some ⟨t, 0, none⟩), .slice A m c] w fun e w' => e = .returned (.int .i64 (scrM M l).2) ∧ After w w' base t (scrM M l).1 (Own t g S lv) := by
  refine (scratchM_any2 h.mb h.pv hw.sc (by rw [h.len]; exact hw.fit) (by rw [h.len]; exact hw.n1) (by rw [h.len]; exact hw.n2) A c l m hp hm hm2 _ rfl _ rfl).mono ?_
  rintro e w' (⟨hb, rfl, hB⟩ | ⟨hb, hl, rfl, hB⟩ | ⟨hb, hl, rfl, sv', lv', hm', hp', hl', hbt, hnew⟩)
  · rw [h.len] at hb
    unfold scrM
    rw [if_pos hb]
    exact ⟨rfl, h.stay hB⟩
  · rw [h.len] at hb
    unfold scrM
    rw [if_neg (by rw [hb]; simp), if_pos (by omega)]
    exact ⟨rfl, h.stay hB⟩
  · rw [h.len] at hb
    unfold scrM
    rw [if_neg (by rw [hb]; simp), if_neg (by omega)]
    refine ⟨rfl, g, cap, S, sv', lv', ⟨hm', hp', ?_, h.len, fun i hi => ?_, h.inj, fun p b e e2 => ?_, h.low⟩, fun k hk => ?_, Tn.of_but hbt (.inl rfl) (.inl rfl)⟩
    · have : offM { M with sc := M.sc ++ l } = lostS (goneS (M.sc ++ l) (98 * S.length + 108) (M.sc.length + m)) (98 * S.length) := by
        unfold offM
        simp only [List.length_append, hm, h.len]
      rw [this]
      exact hl'
    · obtain ⟨e1, e2, e3, e4, e5⟩ := h.sec i hi
      have hne : ∀ b : Nat, (∃ (es : Array MapEntry) (cl : Nat), w.heap[b]? = some (Obj.map es cl)) → w'.heap[b]? = w.heap[b]? := by
        rintro b ⟨es, cl, hh⟩
        have ht : b ≠ t := fun e => by rw [e, h.mb.blk] at hh; cases hh
        exact hbt.block b (Array.getElem?_eq_some_iff.1 hh).1 ht ht
      exact ⟨e1, e2, e3, e4.of_block (fun b e => hne b (e4.is_map e)), e5.of_block (fun b e => hne b (e5.is_map e))⟩
    · obtain ⟨es, cl, hh⟩ := h.blk_map e
      have := hnew b e2
      have := (Array.getElem?_eq_some_iff.1 hh).1
      omega
    · rcases hk with h1 | h1 | h1 | h1
      · exact .inl (.inl h1)
      · exact .inl (.inr (.inl h1))
      · exact .inl (.inr (.inr (.inl h1)))
      · exact .inr (hnew k h1)
theorem MedAt.at_ (h : MedAt w base t M g cap S sv lv) {i : Int} (hi : 0 ≤ i ∧ i < M.L.length) : ∃ k : Nat, i = k ∧ k < S.length ∧ i.toNat = k ∧ S[k]? = some (S.getD k sf0) := by
  have hk : i.toNat < S.length := by rw [h.len]; omega
  refine ⟨i.toNat, by omega, hk, rfl, ?_⟩
  rw [List.getD_eq_getElem?_getD, List.getElem?_eq_getElem hk]
  rfl
theorem readM_any (h : MedAt w base t M g cap S sv lv) (hw : WM N M) (i : Int) (R : ByteArray × List Int × Int) (hR : readM M i = R) :
    Calls Try.prog 15 #[.pointer (some ⟨t, 0, none⟩), .int .i64 i] w fun e w' => ∃ v, e = .returned (.tuple #[.string R.1, v, .int .i64 R.2.2]) ∧ IR .i64 3 w' w.heap.size v R.2.1 ∧ Below w.heap.size w w' := by
  by_cases hi : 0 ≤ i ∧ i < M.L.length
  · unfold readM at hR
    rw [if_neg (Classical.not_not.2 hi)] at hR
    obtain ⟨k, rfl, hk, hk2, hs⟩ := h.at_ hi
    rw [Int.toNat_natCast] at hR
    obtain ⟨e1, e2, e3, e4, e5⟩ := h.sec k hk
    have hx := hw.at_ (k := k) (by rw [← h.len]; exact hk)
    exact read_in h.mb (by rw [h.len]; exact hw.n2) h.lm (offM_length M hw.n2) k _ hs _ _ e4 e5 hx.le hx.lc (by have := off_length hx.ls hx.le; omega) (by rw [e1, e3]; exact hx.raw) (by rw [e1]; exact hx.st) R (by rw [e1, e3]; exact hR)
  · unfold readM at hR
    rw [if_pos hi] at hR
    refine (read_out h.mb (by rw [h.len]; exact hw.n2) i (by rw [h.len]; exact hi)).mono ?_
    rintro e w' ⟨rfl, hb⟩
    subst hR
    exact ⟨_, rfl, ir_nil _ _ _ _, hb⟩
theorem cleanM_any (h : MedAt w base t M g cap S sv lv) (hw : WM N M) (i : Int) (b : Bool) (hb : cleanM M i = b) :
    Calls Try.prog 14 #[.pointer (some ⟨t, 0, none⟩), .int .i64 i] w fun e w' => e = .returned (.bool b) ∧ Below w.heap.size w w' := by
  by_cases hi : 0 ≤ i ∧ i < M.L.length
  · unfold cleanM at hb
    rw [if_neg (Classical.not_not.2 hi)] at hb
    obtain ⟨k, rfl, hk, hk2, hs⟩ := h.at_ hi
    rw [Int.toNat_natCast] at hb
    obtain ⟨e1, e2, e3, e4, e5⟩ := h.sec k hk
    have hx := hw.at_ (k := k) (by rw [← h.len]; exact hk)
    exact clean_in h.mb (by rw [h.len]; exact hw.n2) h.lm (offM_length M hw.n2) k _ hs _ _ e4 e5 hx.le (by have := off_length hx.ls hx.le; omega) b (by rw [e1]; exact hb)
  · unfold cleanM at hb
    rw [if_pos hi] at hb
    subst hb
    exact clean_out h.mb (by rw [h.len]; exact hw.n2) i (by rw [h.len]; exact hi)
theorem stateM_any (h : MedAt w base t M g cap S sv lv) (hw : WM N M) (i : Int) :
    Calls Try.prog 19 #[.pointer (some ⟨t, 0, none⟩), .int .i64 i] w fun e w' => e = .returned (.tuple #[.int .i64 (stateM M i).1, .int .i64 (stateM M i).2]) ∧ Below w.heap.size w w' := by
  have := state_any h.mb (by rw [h.len]; exact hw.n2) i
  have e : stateS S i = stateM M i := by
    unfold stateS stateM
    rw [h.len]
    by_cases hi : 0 ≤ i ∧ i < (M.L.length : Int)
    · rw [if_pos hi, if_pos hi, (h.sec i.toNat (by rw [h.len]; omega)).st]
    · rw [if_neg hi, if_neg hi]
  rw [e] at this
  exact this
theorem countM_any (h : MedAt w base t M g cap S sv lv) (hw : WM N M) (i : Int) :
    Calls Try.prog 31 #[.pointer (some ⟨t, 0, none⟩), .int .i64 i] w fun e w' => e = .returned (.tuple #[.int .i64 (countM M i).1, .int .i64 (countM M i).2]) ∧ Below w.heap.size w w' := by
  have := count_any h.mb (by rw [h.len]; exact hw.n2) i
  have e : countS S i = countM M i := by
    unfold countS countM
    rw [h.len]
    by_cases hi : 0 ≤ i ∧ i < (M.L.length : Int)
    · rw [if_pos hi, if_pos hi, (h.sec i.toNat (by rw [h.len]; omega)).ct]
    · rw [if_neg hi, if_neg hi]
  rw [e] at this
  exact this
end
/-- a blank medium -/
def newM (kd n en : Int) : Med := ⟨kd, en, List.replicate n.toNat sec0, []⟩
theorem goneS_nil_getD (n i : Nat) : (goneS [] n 0).getD i false = false := by
  unfold goneS
  rw [List.take_zero, List.foldl_nil, List.getD_eq_getElem?_getD, List.getElem?_replicate]
  split <;> rfl
theorem offM_nil (M : Med) (h : M.sc = []) : offM M = [] := by
  unfold offM lostS
  rw [h, List.flatMap_eq_nil_iff]
  exact fun f _ => lostF_none _ _ (fun i _ => goneS_nil_getD _ _)
theorem sf0_at (n i : Nat) : (List.replicate n sf0).getD i sf0 = sf0 := by
  rw [List.getD_eq_getElem?_getD, List.getElem?_replicate]
  split <;> rfl
theorem sec0_at (n i : Nat) : (List.replicate n sec0).getD i sec0 = sec0 := by
  rw [List.getD_eq_getElem?_getD, List.getElem?_replicate]
  split <;> rfl
theorem newM_wm {kd n en : Int} (hv : ValidM kd n en) : WM 0 (newM kd n en) := by
  obtain ⟨hk, h1, h2, h3, h4⟩ := hv
  refine ⟨hk, by simp [newM]; omega, by simp [newM]; omega, by simp [newM], by simp [newM, allFit], fun x hx => ?_⟩
  have := (List.mem_replicate.1 hx).2
  subst this
  exact ⟨by simp [sec0], by simp [sec0], .inl rfl, fun e => (by cases e), fun y hy => (by cases hy), fun y hy => (by cases hy), List.Pairwise.nil⟩
theorem newMed_any (kd n en : Int) (w : World) (hv : ValidM kd n en) :
    Calls Try.prog 10 #[.int .i64 kd, .int .i64 n, .int .i64 en] w fun e w' => ∃ t g cap S sv lv, e = .returned (.tuple #[.pointer (some ⟨t, 0, none⟩), .int .i64 0]) ∧ MedAt w' w.heap.size t (newM kd n en) g cap S sv lv ∧ Below w.heap.size w w' := by
  refine (new_any kd n en w hv).mono ?_
  rintro e w' ⟨t, g, cap, rfl, hm, hb⟩
  have hno : ∀ p b, blkOf (List.replicate n.toNat sf0) p ≠ some b := fun p b e => by
    unfold blkOf at e
    rw [sf0_at] at e
    split at e <;> cases e
  refine ⟨t, g, cap, _, _, _, rfl, ⟨hm, PV.nil _ _, by rw [offM_nil _ rfl]; exact LM.nil _ _, by simp [newM], fun i hi => ?_, fun p q b e => absurd e (hno p b), fun p b e => absurd e (hno p b), fun p b e => absurd e (hno p b)⟩, hb⟩
  rw [sf0_at]
  show SecAt w' sf0 ((List.replicate n.toNat sec0).getD i sec0)
  rw [sec0_at]
  exact ⟨rfl, rfl, rfl, .nil, .nil⟩
theorem Tn.of_own {w w' : World} {base t : Nat} {M : Med} {O : Nat → Prop} {B : Nat} {a : World} (h : After w w' base t M O) (hb : Below B a w) (hO : ∀ k, O k → B ≤ k) (hB : B ≤ w.heap.size) : Below B a w' := by
  obtain ⟨g, cap, S, sv, lv, -, -, T⟩ := h
  exact T.below hb hB hO
theorem After.of_below {w w1 : World} {base t : Nat} {M : Med} {O : Nat → Prop} (h : After w w1 base t M O) : ∃ g cap S sv lv, MedAt w1 base t M g cap S sv lv := by
  obtain ⟨g, cap, S, sv, lv, h1, -, -⟩ := h
  exact ⟨g, cap, S, sv, lv, h1⟩

theorem first_below {a b : World} {P : Prop} (h : Below a.heap.size a b ∧ P) : Below a.heap.size a b := h.1
theorem below_step' {B : Nat} {a b c : World} (h : Below B a b) (k : Below b.heap.size b c) (hB : B ≤ a.heap.size) : Below B a c := h.trans (k.mono (Nat.le_trans hB h.size))
end Go.Proofs.Ytfkfdaammlffmaa
