import Derived.Test.YtfkfdaammlffmaaNI
/-! The law MediumHeals: its plain parts. -/
namespace Go.Proofs.Ytfkfdaammlffmaa
set_option linter.unusedVariables false
set_option linter.unusedSimpArgs false
open Go.RowKit Go.Proofs
open Go.Proofs.YtfkfdaammlffmaaW.PrintWords

theorem rd_get {E : List Int} {j : Nat} (h : j < E.length) : rd E j = E[j] := by
  simp [rd, List.getD_eq_getElem?_getD, List.getElem?_eq_getElem h]
theorem validE_srt {E : List Int} (h : validE E = true) : E.Pairwise (· < ·) := by
  have hstep : ∀ j (hj : j + 1 < E.length), E[j]'(by omega) < E[j + 1] := fun j hj => by
    have := okE_spec (List.all_eq_true.1 h (j + 1) (List.mem_range.2 hj))
    have h2 := this.2.2 (by omega)
    rw [show (((j + 1 : Nat)) : Int) - 1 = (j : Int) by omega, rd_get (show j < E.length by omega), rd_get hj] at h2
    exact h2
  rw [List.pairwise_iff_getElem]
  intro i j hi hj hij
  induction j with
  | zero => omega
  | succ j ih =>
    have h1 := hstep j hj
    rcases Nat.lt_or_eq_of_le (Nat.le_of_lt_succ hij) with h2 | h2
    · have := ih (by omega) h2
      omega
    · subst h2; exact h1
theorem damE_look : ∀ (E : List Int) (le : PL) (x : Int), (look (damE le E) x).isSome = ((look le x).isSome || E.contains x)
  | [], le, x => by simp [damE]
  | y :: E, le, x => by
    have h1 := damE_look E (putL y 0 le) x
    have h2 : damE le (y :: E) = damE (putL y 0 le) E := rfl
    rw [h2, h1, look_putL]
    by_cases e : y = x
    · subst e; simp
    · rw [if_neg e]
      have e2 : ¬ x = y := fun h => e h.symm
      simp [List.contains_cons, e2]
theorem heals_gone {E : List Int} (h : validE E = true) (i : Int) : goneL (damE [] E) [] i = E := by
  refine ext_srt (eraL_srt _) (validE_srt h) (fun x => ?_)
  unfold goneL
  rw [mem_eraL, damE_look, look_nil, show lostAt [] i = [] from rfl]
  simp only [Option.isSome_none, Bool.false_or, List.contains_nil, Bool.or_false, List.contains_iff_mem]
  exact ⟨fun h => h.2, fun hx => ⟨validE_range h x hx, hx⟩⟩
/-- the sector of the law: recorded once -/
def hM (ct : Int) (z : ByteArray) (le lc : PL) : Med := ⟨2, 9, [⟨1, ct, z, le, lc⟩], []⟩
theorem hM_new (z : ByteArray) (hz : z.size = 2352) : recM (newM 2 1 9) 0 z = (hM 1 z [] [], 0) := by
  unfold recM
  rw [if_neg (by simp [newM]), if_neg (by rw [hz]; simp)]
  simp [newM, sec0, writeX, Med.put, hM, List.replicate]
theorem hM_rec (y z : ByteArray) (le lc : PL) (hz : z.size = 2352) : recM (hM 1 y le lc) 0 z = (hM 2 z le [], 0) := by
  unfold recM
  rw [if_neg (by simp [hM]), if_neg (by rw [hz]; simp)]
  simp [writeX, Med.put, hM]
theorem hM_dam {z : ByteArray} {E : List Int} {C : PL} (hE : validE E = true) (hC : validC C = true) : damM (hM 1 z [] []) 0 E C = (hM 1 z (damE [] E) (damC [] C), 0) := by
  have := damM_good (M := hM 1 z [] []) (k := 0) (E := E) (C := C) (by simp [hM]) hE hC
  rw [show ((0 : Nat) : Int) = 0 from rfl] at this
  rw [this]
  rfl
theorem hM_wm {ct : Int} {z : ByteArray} (hz : z.size = 2352) (h0 : 0 ≤ ct) (h1 : ct ≤ 2) (le lc : PL) (ho : OffOk le) (ho2 : OffOk lc) (hs : Srt le) : WM 2 (hM ct z le lc) := by
  refine ⟨.inr rfl, by simp [hM], by simp [hM], by simp [hM], by simp [hM, allFit], fun x hx => ?_⟩
  simp only [hM, List.mem_singleton] at hx
  subst hx
  exact ⟨h0, by simpa using h1, .inr (.inl rfl), fun _ => hz, ho, ho2, hs⟩
theorem hM_clean (z : ByteArray) : cleanM (hM 1 z [] []) 0 = true := by
  unfold cleanM
  rw [if_neg (by simp [hM])]
  show cleanT 1 [] (goneL [] (offM (hM 1 z [] [])) 0) = true
  rw [offM_nil _ rfl, goneL_none]
  rfl
theorem hM_clean2 {E : List Int} (hE : validE E = true) (z : ByteArray) : cleanM (hM 2 z (damE [] E) []) 0 = decide (E.length = 0) := by
  unfold cleanM
  rw [if_neg (by simp [hM])]
  show cleanT 1 [] (goneL (damE [] E) (offM (hM 2 z (damE [] E) [])) 0) = _
  rw [offM_nil _ rfl, heals_gone hE]
  unfold cleanT
  cases E <;> simp
theorem hM_read {E : List Int} (hE : validE E = true) (z : ByteArray) : readM (hM 2 z (damE [] E) []) 0 = (strOfNums (readL (bytesOf z) [] E), E, 0) := by
  unfold readM
  rw [if_neg (by simp [hM])]
  show readT 1 z [] (goneL (damE [] E) (offM (hM 2 z (damE [] E) [])) 0) = _
  rw [offM_nil _ rfl, heals_gone hE]
  rfl
theorem zero_read (z : ByteArray) (E : List Int) : zeroL (bytesOf z) E E.length = readL (bytesOf z) [] E := by
  rw [← readL_of, xorL_start (bytesOf_byte z)]
end Go.Proofs.Ytfkfdaammlffmaa
