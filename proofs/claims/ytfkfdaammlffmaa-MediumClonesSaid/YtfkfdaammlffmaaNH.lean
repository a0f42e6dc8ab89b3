import Derived.Test.YtfkfdaammlffmaaNG
/-! Damage of a sector: in plain words. -/
namespace Go.Proofs.Ytfkfdaammlffmaa
set_option linter.unusedVariables false
set_option linter.unusedSimpArgs false
open Go.RowKit Go.Proofs
open Go.Proofs.YtfkfdaammlffmaaW.PrintWords

def okE (E : List Int) (k : Nat) : Bool := decide (0 ≤ rd E k) && decide (rd E k < 2352) && (decide (k = 0) || decide (rd E ((k : Int) - 1) < rd E k))
def okC (x : Int × Int) : Bool := decide (0 ≤ x.1) && decide (x.1 < 2352) && decide (1 ≤ x.2) && decide (x.2 ≤ 255)
def validE (E : List Int) : Bool := (List.range E.length).all (okE E)
def validC (C : PL) : Bool := C.all okC
def damE (le : PL) (E : List Int) : PL := E.foldl (fun l x => putL x 0 l) le
def damC (lc : PL) (C : PL) : PL := C.foldl (fun l x => putL x.1 (xb ((look l x.1).getD 0) x.2) l) lc
def damM (M : Med) (lba : Int) (E : List Int) (C : PL) : Med × Int :=
  if (decide (0 ≤ lba) && decide (lba < M.L.length)) && validE E && validC C then
    (M.put lba.toNat { (M.L.getD lba.toNat sec0) with le := damE (M.L.getD lba.toNat sec0).le E, lc := damC (M.L.getD lba.toNat sec0).lc C }, 0)
  else (M, 1)
theorem damE_snoc (le : PL) (E : List Int) (x : Int) : damE le (E ++ [x]) = putL x 0 (damE le E) := by unfold damE; rw [List.foldl_append]; rfl
theorem damC_snoc (lc C : PL) (x : Int × Int) : damC lc (C ++ [x]) = putL x.1 (xb ((look (damC lc C) x.1).getD 0) x.2) (damC lc C) := by unfold damC; rw [List.foldl_append]; rfl
theorem okE_spec {E : List Int} {k : Nat} (h : okE E k = true) : 0 ≤ rd E k ∧ rd E k < 2352 ∧ (k ≠ 0 → rd E ((k : Int) - 1) < rd E k) := by
  unfold okE at h
  simp only [Bool.and_eq_true, Bool.or_eq_true, decide_eq_true_eq] at h
  exact ⟨h.1.1, h.1.2, fun h0 => h.2.resolve_left h0⟩
theorem okC_spec {x : Int × Int} (h : okC x = true) : 0 ≤ x.1 ∧ x.1 < 2352 ∧ 1 ≤ x.2 ∧ x.2 ≤ 255 := by
  unfold okC at h
  simp only [Bool.and_eq_true, decide_eq_true_eq] at h
  exact ⟨h.1.1.1, h.1.1.2, h.1.2, h.2⟩
theorem validE_bad {E : List Int} {k : Nat} (hk : k < E.length) (h : okE E k = false) : validE E = false := by
  unfold validE
  rw [List.all_eq_false]
  exact ⟨k, List.mem_range.2 hk, by rw [h]; simp⟩
theorem validC_bad {C : PL} {k : Nat} (hk : k < C.length) (h : okC C[k] = false) : validC C = false := by
  unfold validC
  rw [List.all_eq_false]
  exact ⟨_, List.getElem_mem hk, by rw [h]; simp⟩
theorem validE_all {E : List Int} (h : ∀ j, j < E.length → okE E j = true) : validE E = true := by
  unfold validE
  rw [List.all_eq_true]
  exact fun j hj => h j (List.mem_range.1 hj)
theorem validC_all {C : PL} (h : ∀ j (hj : j < C.length), okC C[j] = true) : validC C = true := by
  unfold validC
  rw [List.all_eq_true]
  intro x hx
  obtain ⟨j, hj, rfl⟩ := List.getElem_of_mem hx
  exact h j hj
theorem damM_bad1 {M : Med} {lba : Int} {E : List Int} {C : PL} (h : ¬ (0 ≤ lba ∧ lba < M.L.length)) : damM M lba E C = (M, 1) := by
  unfold damM
  have : (decide (0 ≤ lba) && decide (lba < M.L.length)) = false := by
    rw [Bool.eq_false_iff]; simp; intro h1; omega
  rw [this]; rfl
theorem damM_bad2 {M : Med} {lba : Int} {E : List Int} {C : PL} (h : validE E = false) : damM M lba E C = (M, 1) := by unfold damM; rw [h, Bool.and_false, Bool.false_and]; rfl
theorem damM_bad3 {M : Med} {lba : Int} {E : List Int} {C : PL} (h : validC C = false) : damM M lba E C = (M, 1) := by unfold damM; rw [h, Bool.and_false]; rfl
theorem damM_good {M : Med} {k : Nat} {E : List Int} {C : PL} (h : k < M.L.length) (hE : validE E = true) (hC : validC C = true) :
    damM M k E C = (M.put k { (M.L.getD k sec0) with le := damE (M.L.getD k sec0).le E, lc := damC (M.L.getD k sec0).lc C }, 0) := by
  unfold damM
  have : (decide (0 ≤ (k : Int)) && decide ((k : Int) < M.L.length)) = true := by simp; omega
  rw [this, hE, hC]; rfl
theorem damE_off {le : PL} (h : OffOk le) : ∀ (E : List Int), (∀ x ∈ E, 0 ≤ x ∧ x < 2352) → OffOk (damE le E) := by
  intro E
  induction E generalizing le with
  | nil => intro _; exact h
  | cons x E ih =>
    intro hE
    refine ih (le := putL x 0 le) (fun y hy => ?_) (fun y hy => hE y (List.mem_cons_of_mem _ hy))
    rcases mem_putL.1 hy with rfl | hy
    · exact hE x List.mem_cons_self
    · exact h y hy.1
theorem damE_srt {le : PL} (h : Srt le) : ∀ (E : List Int), Srt (damE le E) := by
  intro E
  induction E generalizing le with
  | nil => exact h
  | cons x E ih => exact ih (le := putL x 0 le) (srt_putL h x 0)
theorem damC_off {lc : PL} (h : OffOk lc) : ∀ (C : PL), (∀ x ∈ C, 0 ≤ x.1 ∧ x.1 < 2352) → OffOk (damC lc C) := by
  intro C
  induction C generalizing lc with
  | nil => intro _; exact h
  | cons x C ih =>
    intro hC
    refine ih (lc := putL x.1 (xb ((look lc x.1).getD 0) x.2) lc) (fun y hy => ?_) (fun y hy => hC y (List.mem_cons_of_mem _ hy))
    rcases mem_putL.1 hy with rfl | hy
    · exact hC x List.mem_cons_self
    · exact h y hy.1
theorem validE_range {E : List Int} (h : validE E = true) : ∀ x ∈ E, 0 ≤ x ∧ x < 2352 := by
  intro x hx
  obtain ⟨j, hj, rfl⟩ := List.getElem_of_mem hx
  have := okE_spec (List.all_eq_true.1 h j (List.mem_range.2 hj))
  have e : rd E j = E[j] := by simp [rd, List.getD_eq_getElem?_getD, List.getElem?_eq_getElem hj]
  rw [e] at this
  exact ⟨this.1, this.2.1⟩
theorem damM_wm {N : Nat} {M : Med} (h : WM N M) (lba : Int) (E : List Int) (C : PL) : WM N (damM M lba E C).1 := by
  unfold damM
  split
  · rename_i hc
    simp only [Bool.and_eq_true, decide_eq_true_eq] at hc
    obtain ⟨⟨⟨h0, h1⟩, hE⟩, hC⟩ := hc
    have hx := h.at_ (k := lba.toNat) (by omega)
    refine h.put _ ⟨hx.c0, hx.c1, hx.st, hx.raw, damE_off hx.le E (validE_range hE), damC_off hx.lc C (fun x hx => ?_), damE_srt hx.ls E⟩
    have := okC_spec (List.all_eq_true.1 hC x hx)
    exact ⟨this.1, this.2.1⟩
  · exact h

theorem offset_in (n : Int) (w : World) (h0 : 0 ≤ n) (h1 : n < 2352) : Calls Try.prog 46 #[.int .i64 n] w fun e w' => e = .returned (.bool true) ∧ w = w' := by
  go_enter Try.func46, Try.ntmps46
  go_wp2
  go_ret
  exact ⟨rfl, rfl⟩
theorem offset_out (n : Int) (w : World) (h : ¬ (0 ≤ n ∧ n < 2352)) : Calls Try.prog 46 #[.int .i64 n] w fun e w' => e = .returned (.bool false) ∧ w = w' := by
  by_cases h0 : 0 ≤ n
  · have h1 : ¬ n < 2352 := fun h1 => h ⟨h0, h1⟩
    clear h
    go_enter Try.func46, Try.ntmps46
    go_wp2
    go_ret
    exact ⟨rfl, rfl⟩
  · have d : decide (0 ≤ n) = false := by simpa using h0
    clear h
    go_enter Try.func46, Try.ntmps46
    go_wp2
    go_ret
    exact ⟨rfl, rfl⟩
theorem is_size {w : World} {b n : Nat} {l : PL} (h : IS Try.prog 3 4 w b n l) : IS Try.prog 3 4 w b l.length l := by
  obtain ⟨es, cl, hb, F, hs, hD⟩ := h
  refine ⟨es, cl, hb, F, ?_, hD⟩
  unfold MS at hD
  injection hD with hD
  have := congrArg List.length hD
  simp only [List.length_map, Go.length_sorted, Array.length_toList] at this
  omega
theorem im_size {w : World} {b n : Nat} {l : PL} (h : IM Try.prog 3 5 .u8 w b n l) : IM Try.prog 3 5 .u8 w b l.length l := by
  obtain ⟨es, cl, hb, F, hs, hD⟩ := h
  refine ⟨es, cl, hb, F, ?_, hD⟩
  unfold MD at hD
  injection hD with hD
  have := congrArg List.length hD
  simp only [List.length_map, Go.length_sorted, Array.length_toList] at this
  omega
end Go.Proofs.Ytfkfdaammlffmaa
