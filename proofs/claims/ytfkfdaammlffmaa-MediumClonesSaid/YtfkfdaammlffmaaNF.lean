import Derived.Test.YtfkfdaammlffmaaNE
/-! The calls of a medium, in plain words; Record, Tear, Erase, Scratch and the readers by contracts on the whole medium. -/
namespace Go.Proofs.Ytfkfdaammlffmaa
set_option linter.unusedVariables false
set_option linter.unusedSimpArgs false
open Go.RowKit Go.Proofs
open Go.Proofs.YtfkfdaammlffmaaW.PrintWords

def writeX (kd en : Int) (x : Sec) (st : Int) (raw : ByteArray) : Sec × Int :=
  if kd = 1 ∧ x.st ≠ 0 then (x, 8) else if en < x.ct + 1 then (⟨3, x.ct + 1, ByteArray.empty, x.le, []⟩, 16) else (⟨st, x.ct + 1, raw, x.le, []⟩, 0)
def Med.put (M : Med) (k : Nat) (x : Sec) : Med := { M with L := M.L.set k x }
def recM (M : Med) (i : Int) (raw : ByteArray) : Med × Int :=
  if ¬ (0 ≤ i ∧ i < M.L.length) then (M, 2) else if raw.size ≠ 2352 then (M, 1) else (M.put i.toNat (writeX M.kd M.en (M.L.getD i.toNat sec0) 1 raw).1, (writeX M.kd M.en (M.L.getD i.toNat sec0) 1 raw).2)
def tearM (M : Med) (i : Int) : Med × Int :=
  if ¬ (0 ≤ i ∧ i < M.L.length) then (M, 2) else (M.put i.toNat (writeX M.kd M.en (M.L.getD i.toNat sec0) 2 ByteArray.empty).1, (writeX M.kd M.en (M.L.getD i.toNat sec0) 2 ByteArray.empty).2)
def eraM (M : Med) (i : Int) : Med × Int :=
  if ¬ (0 ≤ i ∧ i < M.L.length) then (M, 2) else if M.kd ≠ 2 then (M, 15) else if (M.L.getD i.toNat sec0).st = 3 then (M, 16)
  else (M.put i.toNat ⟨0, (M.L.getD i.toNat sec0).ct, ByteArray.empty, (M.L.getD i.toNat sec0).le, []⟩, 0)
def scrM (M : Med) (l : PL) : Med × Int :=
  if allFit l (98 * M.L.length + 108) = false then (M, 1) else if 256 < M.sc.length + l.length then (M, 7) else ({ M with sc := M.sc ++ l }, 0)
def readM (M : Med) (i : Int) : ByteArray × List Int × Int :=
  if ¬ (0 ≤ i ∧ i < M.L.length) then (ByteArray.empty, [], 2) else readT (M.L.getD i.toNat sec0).st (M.L.getD i.toNat sec0).raw (M.L.getD i.toNat sec0).lc (goneL (M.L.getD i.toNat sec0).le (offM M) i)
def cleanM (M : Med) (i : Int) : Bool :=
  if ¬ (0 ≤ i ∧ i < M.L.length) then false else cleanT (M.L.getD i.toNat sec0).st (M.L.getD i.toNat sec0).lc (goneL (M.L.getD i.toNat sec0).le (offM M) i)
def stateM (M : Med) (i : Int) : Int × Int := if 0 ≤ i ∧ i < M.L.length then ((M.L.getD i.toNat sec0).st, 0) else (0, 2)
def countM (M : Med) (i : Int) : Int × Int := if 0 ≤ i ∧ i < M.L.length then ((M.L.getD i.toNat sec0).ct, 0) else (0, 2)

/-- a sector is sound; it has been recorded at most N times -/
structure WX (N : Nat) (x : Sec) : Prop where
  c0 : 0 ≤ x.ct
  c1 : x.ct ≤ N
  st : x.st = 0 ∨ x.st = 1 ∨ x.st = 2 ∨ x.st = 3
  raw : x.st = 1 → x.raw.size = 2352
  le : OffOk x.le
  lc : OffOk x.lc
  ls : Srt x.le
structure WM (N : Nat) (M : Med) : Prop where
  kd : M.kd = 1 ∨ M.kd = 2
  n1 : 1 ≤ M.L.length
  n2 : M.L.length ≤ 4096
  sc : M.sc.length ≤ 256
  fit : allFit M.sc (98 * M.L.length + 108) = true
  sec : ∀ x ∈ M.L, WX N x
theorem WM.at_ {N : Nat} {M : Med} (h : WM N M) {k : Nat} (hk : k < M.L.length) : WX N (M.L.getD k sec0) := by
  refine h.sec _ ?_
  rw [List.getD_eq_getElem?_getD, List.getElem?_eq_getElem hk]
  exact List.getElem_mem hk
theorem WX.mono {N N' : Nat} {x : Sec} (h : WX N x) (hN : N ≤ N') : WX N' x := ⟨h.c0, by have := h.c1; omega, h.st, h.raw, h.le, h.lc, h.ls⟩
theorem WM.mono {N N' : Nat} {M : Med} (h : WM N M) (hN : N ≤ N') : WM N' M := ⟨h.kd, h.n1, h.n2, h.sc, h.fit, fun x hx => (h.sec x hx).mono hN⟩
theorem WM.put {N : Nat} {M : Med} (h : WM N M) (k : Nat) {x : Sec} (hx : WX N x) : WM N (M.put k x) := by
  refine ⟨h.kd, by simpa [Med.put] using h.n1, by simpa [Med.put] using h.n2, h.sc, by simpa [Med.put] using h.fit, fun y hy => ?_⟩
  rcases List.mem_or_eq_of_mem_set hy with h1 | h1
  · exact h.sec y h1
  · rw [h1]; exact hx
theorem writeX_wx {N : Nat} {kd en : Int} {x : Sec} {st : Int} {raw : ByteArray} (h : WX N x) (hst : st = 1 ∧ raw.size = 2352 ∨ st = 2) : WX (N + 1) (writeX kd en x st raw).1 := by
  unfold writeX
  have := h.c0
  have := h.c1
  split
  · exact h.mono (by omega)
  · split
    · exact ⟨by simp only; omega, by simp only; omega, .inr (.inr (.inr rfl)), fun e => (by cases e), h.le, fun y hy => (by cases hy), h.ls⟩
    · refine ⟨by simp only; omega, by simp only; omega, ?_, fun e => ?_, h.le, fun y hy => (by cases hy), h.ls⟩
      · rcases hst with hst | hst
        · exact .inr (.inl hst.1)
        · exact .inr (.inr (.inl hst))
      · rcases hst with hst | hst
        · exact hst.2
        · simp only at e; omega
theorem recM_wm {N : Nat} {M : Med} (h : WM N M) (i : Int) (raw : ByteArray) : WM (N + 1) (recM M i raw).1 := by
  unfold recM
  split
  · exact h.mono (by omega)
  · rename_i hi
    split
    · exact h.mono (by omega)
    · rename_i hr
      exact (h.mono (by omega)).put _ (writeX_wx (h.at_ (by omega)) (.inl ⟨rfl, Classical.not_not.1 hr⟩))
theorem tearM_wm {N : Nat} {M : Med} (h : WM N M) (i : Int) : WM (N + 1) (tearM M i).1 := by
  unfold tearM
  split
  · exact h.mono (by omega)
  · exact (h.mono (by omega)).put _ (writeX_wx (h.at_ (by omega)) (.inr rfl))
theorem eraM_wm {N : Nat} {M : Med} (h : WM N M) (i : Int) : WM N (eraM M i).1 := by
  unfold eraM
  split
  · exact h
  · split
    · exact h
    · split
      · exact h
      · have hx := h.at_ (k := i.toNat) (by omega)
        exact h.put _ ⟨hx.c0, hx.c1, .inl rfl, fun e => (by cases e), hx.le, fun y hy => (by cases hy), hx.ls⟩
theorem scrM_wm {N : Nat} {M : Med} (h : WM N M) (l : PL) : WM N (scrM M l).1 := by
  unfold scrM
  split
  · exact h
  · rename_i h1
    split
    · exact h
    · refine ⟨h.kd, h.n1, h.n2, by simp only [List.length_append]; omega, ?_, h.sec⟩
      rw [allFit_append, h.fit]
      simpa using h1

/-- behind a call of the medium at t: it is M' now; what it may write is what it could, or new; nothing else has turned -/
def After (w w' : World) (base t : Nat) (M' : Med) (O : Nat → Prop) : Prop :=
  ∃ g cap S sv lv, MedAt w' base t M' g cap S sv lv ∧ (∀ k, Own t g S lv k → O k ∨ w.heap.size ≤ k) ∧ Tn O w w'
section
variable {w w' : World} {base t g cap : Nat} {M : Med} {S : List Sf} {sv lv : Value} {N : Nat}
theorem MedAt.same (h : MedAt w base t M g cap S sv lv) (hbt : But g g w w') (hm : MB w' base t g cap M.kd M.en S sv lv) : MedAt w' base t M g cap S sv lv := by
  refine ⟨hm, ?_, ?_, h.len, fun i hi => ?_, h.inj, h.lb, h.low⟩
  · refine h.pv.of_block (fun j e => ?_)
    obtain ⟨-, hj2, cur, hj3⟩ := h.pv.lt j e
    have hne : j ≠ g := fun e2 => ((h.own_obj (.inr (.inl rfl))).2.2 cur).2 (by rw [← e2]; exact hj3)
    exact hbt.block j hj2 hne hne
  · refine h.lm.keep (fun b es cl hh e => hbt.block b (Array.getElem?_eq_some_iff.1 hh).1 (h.mb.gmap hh) (h.mb.gmap hh)) (fun j cur hh => ?_) hbt.size
    have hne : j ≠ g := fun e2 => ((h.own_obj (.inr (.inl rfl))).2.2 cur).1 (by rw [← e2]; exact hh)
    exact hbt.block j (Array.getElem?_eq_some_iff.1 hh).1 hne hne
  · have hne : ∀ b : Nat, (∃ (es : Array MapEntry) (cl : Nat), w.heap[b]? = some (Obj.map es cl)) → w'.heap[b]? = w.heap[b]? := by
      rintro b ⟨es, cl, hh⟩
      exact hbt.block b (Array.getElem?_eq_some_iff.1 hh).1 (h.mb.gmap hh) (h.mb.gmap hh)
    obtain ⟨e1, e2, e3, e4, e5⟩ := h.sec i hi
    exact ⟨e1, e2, e3, e4.of_block (fun b e => hne b (e4.is_map e)), e5.of_block (fun b e => hne b (e5.is_map e))⟩
theorem MedAt.stay (h : MedAt w base t M g cap S sv lv) (hb : Below w.heap.size w w') : After w w' base t M (Own t g S lv) :=
  ⟨g, cap, S, sv, lv, h.below hb, fun k hk => .inl hk, Tn.of_below hb⟩
theorem MedAt.stay_g (h : MedAt w base t M g cap S sv lv) (hbt : But g g w w') (hm : MB w' base t g cap M.kd M.en S sv lv) : After w w' base t M (Own t g S lv) :=
  ⟨g, cap, S, sv, lv, h.same hbt hm, fun k hk => .inl hk, Tn.of_but hbt (.inr (.inl rfl)) (.inr (.inl rfl))⟩
theorem MedAt.gkeep (h : MedAt w base t M g cap S sv lv) (hbt : But g g w w') {b : Nat} (hb : ∃ (es : Array MapEntry) (cl : Nat), w.heap[b]? = some (Obj.map es cl)) : w'.heap[b]? = w.heap[b]? := by
  obtain ⟨es, cl, hh⟩ := hb
  exact hbt.block b (Array.getElem?_eq_some_iff.1 hh).1 (h.mb.gmap hh) (h.mb.gmap hh)
theorem MedAt.ctok (h : MedAt w base t M g cap S sv lv) (hw : WM N M) (hN : N ≤ 100000000) : CtOk S := fun s hs => by
  obtain ⟨i, hi, rfl⟩ := List.getElem_of_mem hs
  have h1 := h.sec i hi
  have hg : S.getD i sf0 = S[i] := by rw [List.getD_eq_getElem?_getD, List.getElem?_eq_getElem hi]; rfl
  have hx := hw.at_ (k := i) (by rw [← h.len]; exact hi)
  have e := h1.ct
  rw [hg] at e
  rw [e]
  have := hx.c0
  have := hx.c1
  exact ⟨by omega, by omega⟩
/-- a sector is recorded or torn -/
theorem MedAt.write (h : MedAt w base t M g cap S sv lv) (hbt : But g g w w') (k : Nat) (hk : k < S.length) (st : Int) (raw : ByteArray) (hm : MB w' base t g cap M.kd M.en (S.set k (writeS M.kd M.en (S.getD k sf0) st raw).1) sv lv) :
    (writeS M.kd M.en (S.getD k sf0) st raw).2 = (writeX M.kd M.en (M.L.getD k sec0) st raw).2 ∧ After w w' base t (M.put k (writeX M.kd M.en (M.L.getD k sec0) st raw).1) (Own t g S lv) := by
  obtain ⟨e1, e2, e3, e4, e5⟩ := h.sec k hk
  have k4 := e4.of_block (w' := w') (fun b e => h.gkeep hbt (e4.is_map e))
  have k5 := e5.of_block (w' := w') (fun b e => h.gkeep hbt (e5.is_map e))
  have fin : ∀ (s' : Sf) (x' : Sec), s'.er = (S.getD k sf0).er → (s'.ch = (S.getD k sf0).ch ∨ s'.ch = none) → SecAt w' s' x' → MB w' base t g cap M.kd M.en (S.set k s') sv lv → After w w' base t (M.put k x') (Own t g S lv) := fun s' x' he hc hx hm' => by
    obtain ⟨h1, h2⟩ := h.set hbt hm' hk he hc hx rfl
    exact ⟨g, cap, _, sv, lv, h1, fun j hj => .inl (h2 j hj), Tn.of_but hbt (.inr (.inl rfl)) (.inr (.inl rfl))⟩
  unfold writeS writeX at *
  simp only [e1, e2] at hm ⊢
  by_cases c1 : M.kd = 1 ∧ (M.L.getD k sec0).st ≠ 0
  · rw [if_pos c1] at hm
    rw [if_pos c1, if_pos c1]
    exact ⟨rfl, fin _ _ rfl (.inl rfl) ⟨e1, e2, e3, k4, k5⟩ hm⟩
  · rw [if_neg c1] at hm
    rw [if_neg c1, if_neg c1]
    by_cases c2 : M.en < (M.L.getD k sec0).ct + 1
    · rw [if_pos c2] at hm
      rw [if_pos c2, if_pos c2]
      exact ⟨rfl, fin ⟨3, (M.L.getD k sec0).ct + 1, ByteArray.empty, (S.getD k sf0).er, none⟩ _ rfl (.inr rfl) ⟨rfl, rfl, rfl, k4, .nil⟩ hm⟩
    · rw [if_neg c2] at hm
      rw [if_neg c2, if_neg c2]
      exact ⟨rfl, fin ⟨st, (M.L.getD k sec0).ct + 1, raw, (S.getD k sf0).er, none⟩ _ rfl (.inr rfl) ⟨rfl, rfl, rfl, k4, .nil⟩ hm⟩
theorem recordM_any (h : MedAt w base t M g cap S sv lv) (hw : WM N M) (hN : N ≤ 100000000) (i : Int) (raw : ByteArray) (hraw : raw.size ≤ 100000) :
    Calls Try.prog 11 #[.pointer (some ⟨t, 0, none⟩), .int .i64 i, .string raw] w fun e w' => e = .returned (.int .i64 (recM M i raw).2) ∧ After w w' base t (recM M i raw).1 (Own t g S lv) := by
  refine (record_any h.mb (by rw [h.len]; exact hw.n2) hw.kd (h.ctok hw hN) i raw hraw).mono ?_
  rintro e w' ⟨rfl, hm, hbt⟩
  unfold recordS recM at *
  rw [h.len] at *
  by_cases c1 : ¬ (0 ≤ i ∧ i < (M.L.length : Int))
  · rw [if_pos c1] at hm ⊢
    rw [if_pos c1]
    exact ⟨rfl, h.stay_g hbt hm⟩
  · rw [if_neg c1] at hm ⊢
    rw [if_neg c1]
    by_cases c2 : raw.size ≠ 2352
    · rw [if_pos c2] at hm ⊢
      rw [if_pos c2]
      exact ⟨rfl, h.stay_g hbt hm⟩
    · rw [if_neg c2] at hm ⊢
      rw [if_neg c2]
      obtain ⟨a1, a2⟩ := h.write hbt i.toNat (by rw [h.len]; omega) 1 raw hm
      exact ⟨by rw [a1], a2⟩
theorem tearM_any (h : MedAt w base t M g cap S sv lv) (hw : WM N M) (hN : N ≤ 100000000) (i : Int) :
    Calls Try.prog 47 #[.pointer (some ⟨t, 0, none⟩), .int .i64 i] w fun e w' => e = .returned (.int .i64 (tearM M i).2) ∧ After w w' base t (tearM M i).1 (Own t g S lv) := by
  refine (tear_any h.mb (by rw [h.len]; exact hw.n2) hw.kd (h.ctok hw hN) i).mono ?_
  rintro e w' ⟨rfl, hm, hbt⟩
  unfold tearS tearM at *
  rw [h.len] at *
  by_cases c1 : ¬ (0 ≤ i ∧ i < (M.L.length : Int))
  · rw [if_pos c1] at hm ⊢
    rw [if_pos c1]
    exact ⟨rfl, h.stay_g hbt hm⟩
  · rw [if_neg c1] at hm ⊢
    rw [if_neg c1]
    obtain ⟨a1, a2⟩ := h.write hbt i.toNat (by rw [h.len]; omega) 2 ByteArray.empty hm
    exact ⟨by rw [a1], a2⟩
theorem eraseM_any (h : MedAt w base t M g cap S sv lv) (hw : WM N M) (i : Int) :
    Calls Try.prog 18 #[.pointer (some ⟨t, 0, none⟩), .int .i64 i] w fun e w' => e = .returned (.int .i64 (eraM M i).2) ∧ After w w' base t (eraM M i).1 (Own t g S lv) := by
  refine (erase_any h.mb (by rw [h.len]; exact hw.n2) i).mono ?_
  rintro e w' ⟨rfl, hm, hbt⟩
  unfold eraseS eraM at *
  rw [h.len] at *
  by_cases c1 : ¬ (0 ≤ i ∧ i < (M.L.length : Int))
  · rw [if_pos c1] at hm ⊢
    rw [if_pos c1]
    exact ⟨rfl, h.stay_g hbt hm⟩
  · rw [if_neg c1] at hm ⊢
    rw [if_neg c1]
    have hk : i.toNat < S.length := by rw [h.len]; omega
    obtain ⟨e1, e2, e3, e4, e5⟩ := h.sec i.toNat hk
    have k4 := e4.of_block (w' := w') (fun b e => h.gkeep hbt (e4.is_map e))
    simp only [e1, e2] at hm ⊢
    by_cases c2 : M.kd ≠ 2
    · rw [if_pos c2] at hm ⊢
      rw [if_pos c2]
      exact ⟨rfl, h.stay_g hbt hm⟩
    · rw [if_neg c2] at hm ⊢
      rw [if_neg c2]
      by_cases c3 : (M.L.getD i.toNat sec0).st = 3
      · rw [if_pos c3] at hm ⊢
        rw [if_pos c3]
        exact ⟨rfl, h.stay_g hbt hm⟩
      · rw [if_neg c3] at hm ⊢
        rw [if_neg c3]
        obtain ⟨h1, h2⟩ := h.set hbt hm hk rfl (.inr rfl) (x' := ⟨0, (M.L.getD i.toNat sec0).ct, ByteArray.empty, (M.L.getD i.toNat sec0).le, []⟩) ⟨rfl, rfl, rfl, k4, .nil⟩ rfl
        exact ⟨rfl, g, cap, _, sv, lv, h1, fun j hj => .inl (h2 j hj), Tn.of_but hbt (.inr (.inl rfl)) (.inr (.inl rfl))⟩
end
end Go.Proofs.Ytfkfdaammlffmaa
