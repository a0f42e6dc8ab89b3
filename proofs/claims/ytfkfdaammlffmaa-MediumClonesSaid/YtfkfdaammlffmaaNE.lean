import Derived.Test.YtfkfdaammlffmaaNZ
/-! A medium as a whole: what it is, where it lies, what keeps it. -/
namespace Go.Proofs.Ytfkfdaammlffmaa
set_option linter.unusedVariables false
set_option linter.unusedSimpArgs false
open Go.RowKit Go.Proofs
open Go.Proofs.YtfkfdaammlffmaaW.PrintWords

/-- nothing but the blocks of X has turned among those that there were -/
structure Tn (X : Nat → Prop) (w w' : World) : Prop where
  os : w'.os = w.os
  tape : w'.tape = w.tape
  output : w'.output = w.output
  size : w.heap.size ≤ w'.heap.size
  block : ∀ k, k < w.heap.size → ¬ X k → w'.heap[k]? = w.heap[k]?
theorem Tn.refl (X : Nat → Prop) (w : World) : Tn X w w := ⟨rfl, rfl, rfl, Nat.le_refl _, fun _ _ _ => rfl⟩
theorem Tn.trans {X Y : Nat → Prop} {a b c : World} (h : Tn X a b) (k : Tn Y b c) (hs : ∀ j, j < a.heap.size → Y j → X j) : Tn X a c :=
  ⟨k.os.trans h.os, k.tape.trans h.tape, k.output.trans h.output, Nat.le_trans h.size k.size, fun j h1 h2 => (k.block j (Nat.lt_of_lt_of_le h1 h.size) (fun hy => h2 (hs j h1 hy))).trans (h.block j h1 h2)⟩
theorem Tn.of_below {X : Nat → Prop} {a b : World} (h : Below a.heap.size a b) : Tn X a b := ⟨h.os, h.tape, h.output, h.size, fun j h1 _ => h.block j h1⟩
theorem Tn.of_but {X : Nat → Prop} {t m : Nat} {a b : World} (h : But t m a b) (h1 : X t) (h2 : X m) : Tn X a b :=
  ⟨h.os, h.tape, h.output, h.size, fun j hj hx => h.block j hj (fun e => hx (by rw [e]; exact h1)) (fun e => hx (by rw [e]; exact h2))⟩
theorem Tn.below {X : Nat → Prop} {B : Nat} {a b c : World} (h : Below B a b) (k : Tn X b c) (hB : B ≤ b.heap.size) (hx : ∀ j, X j → B ≤ j) : Below B a c :=
  ⟨k.os.trans h.os, k.tape.trans h.tape, k.output.trans h.output, Nat.le_trans h.size k.size, fun j hj => (k.block j (by omega) (fun hX => by have := hx j hX; omega)).trans (h.block j hj)⟩
theorem Tn.mono {X Y : Nat → Prop} {a b : World} (h : Tn X a b) (hs : ∀ j, j < a.heap.size → X j → Y j) : Tn Y a b :=
  ⟨h.os, h.tape, h.output, h.size, fun j h1 h2 => h.block j h1 (fun hx => h2 (hs j h1 hx))⟩

theorem HasSet.is_map {w : World} {er : Option Nat} {l : PL} (h : HasSet w er l) {b : Nat} (e : er = some b) : ∃ es cl, w.heap[b]? = some (.map es cl) := by
  cases h with
  | nil => cases e
  | set b' nn l h =>
    cases e
    obtain ⟨es, cl, hb, -⟩ := h
    exact ⟨es, cl, hb⟩
theorem HasMap.is_map {w : World} {ch : Option Nat} {l : PL} (h : HasMap w ch l) {b : Nat} (e : ch = some b) : ∃ es cl, w.heap[b]? = some (.map es cl) := by
  cases h with
  | nil => cases e
  | map b' nn l h =>
    cases e
    obtain ⟨es, cl, hb, -⟩ := h
    exact ⟨es, cl, hb⟩
theorem HasSet.srt {w : World} {er : Option Nat} {l : PL} (h : HasSet w er l) : Srt l := by
  cases h with
  | nil => exact List.Pairwise.nil
  | set b nn l h => exact is_srt (Go.Maps.int_keyed Try.underlying3) h
theorem srt_length : ∀ {l : PL} {a : Int} {n : Nat}, Srt l → (∀ x ∈ l, a ≤ x.1 ∧ x.1 < a + n) → l.length ≤ n
  | [], _, _, _, _ => by simp
  | x :: l, a, n, hs, hr => by
    have h1 := hr x List.mem_cons_self
    have h2 := List.pairwise_cons.1 hs
    have := srt_length (l := l) (a := a + 1) (n := n - 1) h2.2 (fun y hy => by
      have a1 := h2.1 y hy
      have a2 := hr y (List.mem_cons_of_mem _ hy)
      omega)
    rw [List.length_cons]
    omega
theorem off_length {l : PL} (hs : Srt l) (ho : OffOk l) : l.length ≤ 2352 := srt_length (a := 0) (n := 2352) hs (fun x hx => by have := ho x hx; omega)

/-- a sector, in plain words -/
structure Sec where
  st : Int
  ct : Int
  raw : ByteArray
  le : PL
  lc : PL
def sec0 : Sec := ⟨0, 0, ByteArray.empty, [], []⟩
/-- a medium, in plain words -/
structure Med where
  kd : Int
  en : Int
  L : List Sec
  sc : PL
def offM (M : Med) : List Int := lostS (goneS M.sc (98 * M.L.length + 108) M.sc.length) (98 * M.L.length)
structure SecAt (w : World) (s : Sf) (x : Sec) : Prop where
  st : s.st = x.st
  ct : s.ct = x.ct
  raw : s.raw = x.raw
  er : HasSet w s.er x.le
  ch : HasMap w s.ch x.lc
theorem MB.gblk {w : World} {base t g cap : Nat} {kd en : Int} {S : List Sf} {sv lv : Value} (h : MB w base t g cap kd en S sv lv) : ∃ cur, w.heap[g]? = some (.cells cur 101 (0, 0)) := by
  obtain ⟨-, inn, ho, -⟩ := h.row
  rcases ho.2 with ⟨e0, -⟩ | ⟨g', cap', cur', e0, -, hb, -⟩
  · cases e0
  · injection e0 with e1 e2 e3
    injection e1 with e1
    injection e1 with e1
    subst e1
    exact ⟨_, hb⟩
theorem MB.gmap {w : World} {base t g cap : Nat} {kd en : Int} {S : List Sf} {sv lv : Value} (h : MB w base t g cap kd en S sv lv) {b : Nat} {es : Array MapEntry} {cl : Nat} (hh : w.heap[b]? = some (.map es cl)) : b ≠ g := fun e => by
  obtain ⟨cur, hb⟩ := h.gblk
  rw [← e, hh] at hb
  cases hb
def blkOf (S : List Sf) (p : Nat) : Option Nat := if p % 2 = 0 then (S.getD (p / 2) sf0).er else (S.getD (p / 2) sf0).ch
structure MedAt (w : World) (base t : Nat) (M : Med) (g cap : Nat) (S : List Sf) (sv lv : Value) : Prop where
  mb : MB w base t g cap M.kd M.en S sv lv
  pv : PV w base sv M.sc
  lm : LM w base lv (offM M)
  len : S.length = M.L.length
  sec : ∀ i, i < S.length → SecAt w (S.getD i sf0) (M.L.getD i sec0)
  inj : ∀ p q b, blkOf S p = some b → blkOf S q = some b → p = q
  lb : ∀ p b, blkOf S p = some b → lv ≠ .map (some b)
  low : ∀ p b, blkOf S p = some b → base ≤ b
/-- the blocks that a medium may write -/
def Own (t g : Nat) (S : List Sf) (lv : Value) (k : Nat) : Prop := k = t ∨ k = g ∨ (∃ p, blkOf S p = some k) ∨ lv = .map (some k)

theorem blkOf_lt {S : List Sf} {p b : Nat} (h : blkOf S p = some b) : p / 2 < S.length := by
  apply Classical.byContradiction
  intro hn
  have : S.getD (p / 2) sf0 = sf0 := by rw [List.getD_eq_getElem?_getD, List.getElem?_eq_none (by omega)]; rfl
  unfold blkOf at h
  rw [this] at h
  split at h <;> cases h
section
variable {w w' : World} {base t g cap : Nat} {M : Med} {S : List Sf} {sv lv : Value}
theorem MedAt.blk_map (h : MedAt w base t M g cap S sv lv) {p b : Nat} (e : blkOf S p = some b) : ∃ es cl, w.heap[b]? = some (.map es cl) := by
  have hs := h.sec _ (blkOf_lt e)
  unfold blkOf at e
  split at e
  · exact hs.er.is_map e
  · exact hs.ch.is_map e
theorem MedAt.own_obj (h : MedAt w base t M g cap S sv lv) {k : Nat} (hk : Own t g S lv k) : k < w.heap.size ∧ base ≤ k ∧ ∀ cur, w.heap[k]? ≠ some (.cells cur 3 (0, 0)) ∧ w.heap[k]? ≠ some (.cells cur 36 (0, 0)) := by
  have hmap : ∀ es cl, w.heap[k]? = some (.map es cl) → k < w.heap.size ∧ ∀ cur, w.heap[k]? ≠ some (.cells cur 3 (0, 0)) ∧ w.heap[k]? ≠ some (.cells cur 36 (0, 0)) := fun es cl e =>
    ⟨(Array.getElem?_eq_some_iff.1 e).1, fun cur => ⟨fun e2 => (by rw [e] at e2; cases e2), fun e2 => (by rw [e] at e2; cases e2)⟩⟩
  rcases hk with rfl | rfl | ⟨p, e⟩ | e
  · refine ⟨h.mb.lt, h.mb.bt, fun cur => ⟨fun e2 => ?_, fun e2 => ?_⟩⟩
    · rw [h.mb.blk] at e2; injection e2 with e2; injection e2 with _ e2; cases e2
    · rw [h.mb.blk] at e2; injection e2 with e2; injection e2 with _ e2; cases e2
  · refine ⟨h.mb.glt, h.mb.gbase, ?_⟩
    obtain ⟨c0, hb⟩ := h.mb.gblk
    refine fun cur => ⟨fun e2 => ?_, fun e2 => ?_⟩
    · rw [hb] at e2; injection e2 with e2; injection e2 with _ e2; cases e2
    · rw [hb] at e2; injection e2 with e2; injection e2 with _ e2; cases e2
  · obtain ⟨es, cl, hb⟩ := h.blk_map e
    exact ⟨(hmap es cl hb).1, h.low p k e, (hmap es cl hb).2⟩
  · rcases h.lm with ⟨e2, -⟩ | ⟨lb, gb, es, cl, D, e2, h1, hb, -⟩
    · rw [e] at e2; cases e2
    · rw [e] at e2
      injection e2 with e2
      injection e2 with e2
      subst e2
      exact ⟨(hmap es cl hb).1, h1, (hmap es cl hb).2⟩
theorem MedAt.keep (h : MedAt w base t M g cap S sv lv) {Y : Nat → Prop} (T : Tn Y w w') (hd : ∀ k, Own t g S lv k → ¬ Y k)
    (hY : ∀ k, Y k → k < w.heap.size → ∀ cur, w.heap[k]? ≠ some (.cells cur 3 (0, 0)) ∧ w.heap[k]? ≠ some (.cells cur 36 (0, 0))) : MedAt w' base t M g cap S sv lv := by
  have hb : ∀ k, Own t g S lv k → w'.heap[k]? = w.heap[k]? := fun k hk => T.block k (h.own_obj hk).1 (hd k hk)
  refine ⟨h.mb.keep (hb t (.inl rfl)) (hb g (.inr (.inl rfl))), ?_, ?_, h.len, fun i hi => ?_, h.inj, h.lb, h.low⟩
  · refine h.pv.of_block (fun k e => ?_)
    obtain ⟨-, hk2, cur, hk3⟩ := h.pv.lt k e
    exact T.block k hk2 (fun hy => (hY k hy hk2 cur).2 hk3)
  · refine h.lm.keep (fun b es cl hh e => hb b (.inr (.inr (.inr e)))) (fun k cur hh => ?_) T.size
    have hk2 := (Array.getElem?_eq_some_iff.1 hh).1
    exact T.block k hk2 (fun hy => (hY k hy hk2 cur).1 hh)
  · obtain ⟨e1, e2, e3, e4, e5⟩ := h.sec i hi
    refine ⟨e1, e2, e3, e4.of_block (fun b e => hb b (.inr (.inr (.inl ⟨2 * i, ?_⟩)))), e5.of_block (fun b e => hb b (.inr (.inr (.inl ⟨2 * i + 1, ?_⟩))))⟩
    · unfold blkOf
      rw [if_pos (by omega), show 2 * i / 2 = i by omega]
      exact e
    · unfold blkOf
      rw [if_neg (by omega), show (2 * i + 1) / 2 = i by omega]
      exact e
theorem MedAt.below (h : MedAt w base t M g cap S sv lv) (hb : Below w.heap.size w w') : MedAt w' base t M g cap S sv lv :=
  h.keep (Y := fun _ => False) (Tn.of_below hb) (fun _ _ h => h) (fun _ h => h.elim)
/-- the sectors are as they were but for one, whose maps are none that there were not -/
theorem MedAt.set {M' : Med} {k : Nat} {s' : Sf} {x' : Sec} (h : MedAt w base t M g cap S sv lv) (hbt : But g g w w') (hm : MB w' base t g cap M.kd M.en (S.set k s') sv lv) (hk : k < S.length)
    (he : s'.er = (S.getD k sf0).er) (hc : s'.ch = (S.getD k sf0).ch ∨ s'.ch = none) (hx : SecAt w' s' x') (hM : M' = { M with L := M.L.set k x' }) : MedAt w' base t M' g cap (S.set k s') sv lv ∧ (∀ j, Own t g (S.set k s') lv j → Own t g S lv j) := by
  subst hM
  have hsub : ∀ p b, blkOf (S.set k s') p = some b → blkOf S p = some b := fun p b e => by
    unfold blkOf at e ⊢
    by_cases ep : p / 2 = k
    · subst ep
      have hg : (S.set (p / 2) s').getD (p / 2) sf0 = s' := by simp [List.getD_eq_getElem?_getD, hk]
      rw [hg] at e
      split at e
      · rw [if_pos ‹_›, ← he]; exact e
      · rw [if_neg ‹_›]
        rcases hc with hc | hc
        · rw [← hc]; exact e
        · rw [hc] at e; cases e
    · have hg : (S.set k s').getD (p / 2) sf0 = S.getD (p / 2) sf0 := by simp [List.getD_eq_getElem?_getD, List.getElem?_set, Ne.symm ep]
      rw [hg] at e
      exact e
  have hk2 : MedAt w' base t { M with L := M.L.set k x' } g cap (S.set k s') sv lv := by
    refine ⟨hm, ?_, ?_, by simp [h.len], fun i hi => ?_, fun p q b h1 h2 => h.inj p q b (hsub _ _ h1) (hsub _ _ h2), fun p b e => h.lb p b (hsub _ _ e), fun p b e => h.low p b (hsub _ _ e)⟩
    · refine h.pv.of_block (fun j e => ?_)
      obtain ⟨-, hj2, cur, hj3⟩ := h.pv.lt j e
      have hne : j ≠ g := fun e2 => ((h.own_obj (.inr (.inl rfl))).2.2 cur).2 (by rw [← e2]; exact hj3)
      exact hbt.block j hj2 hne hne
    · have ho : offM { M with L := M.L.set k x' } = offM M := by unfold offM; simp
      rw [ho]
      refine h.lm.keep (fun b es cl hh e => ?_) (fun j cur hh => ?_) hbt.size
      · have hne := h.mb.gmap hh
        exact hbt.block b (Array.getElem?_eq_some_iff.1 hh).1 hne hne
      · have hne : j ≠ g := fun e2 => ((h.own_obj (.inr (.inl rfl))).2.2 cur).1 (by rw [← e2]; exact hh)
        exact hbt.block j (Array.getElem?_eq_some_iff.1 hh).1 hne hne
    · rw [List.length_set] at hi
      by_cases ei : i = k
      · subst ei
        have hg : (S.set i s').getD i sf0 = s' := by simp [List.getD_eq_getElem?_getD, hi]
        have hg2 : (M.L.set i x').getD i sec0 = x' := by simp [List.getD_eq_getElem?_getD, ← h.len, hi]
        show SecAt w' ((S.set i s').getD i sf0) ((M.L.set i x').getD i sec0)
        rw [hg, hg2]
        exact hx
      · have hg : (S.set k s').getD i sf0 = S.getD i sf0 := by simp [List.getD_eq_getElem?_getD, List.getElem?_set, Ne.symm ei]
        have hg2 : (M.L.set k x').getD i sec0 = M.L.getD i sec0 := by simp [List.getD_eq_getElem?_getD, List.getElem?_set, Ne.symm ei]
        show SecAt w' ((S.set k s').getD i sf0) ((M.L.set k x').getD i sec0)
        rw [hg, hg2]
        obtain ⟨e1, e2, e3, e4, e5⟩ := h.sec i hi
        have hne : ∀ b : Nat, (∃ (es : Array MapEntry) (cl : Nat), w.heap[b]? = some (Obj.map es cl)) → w'.heap[b]? = w.heap[b]? := by
          rintro b ⟨es, cl, hh⟩
          exact hbt.block b (Array.getElem?_eq_some_iff.1 hh).1 (h.mb.gmap hh) (h.mb.gmap hh)
        exact ⟨e1, e2, e3, e4.of_block (fun b e => hne b (e4.is_map e)), e5.of_block (fun b e => hne b (e5.is_map e))⟩
  refine ⟨hk2, fun j hj => ?_⟩
  rcases hj with h1 | h1 | ⟨p, h1⟩ | h1
  · exact .inl h1
  · exact .inr (.inl h1)
  · exact .inr (.inr (.inl ⟨p, hsub p j h1⟩))
  · exact .inr (.inr (.inr h1))
end
end Go.Proofs.Ytfkfdaammlffmaa
