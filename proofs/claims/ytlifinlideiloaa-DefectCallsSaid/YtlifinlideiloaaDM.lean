import Derived.Test.YtlifinlideiloaaDF
/-! The plain law of the defect table. -/
namespace Go.Proofs.Ytlifinlideiloaa
set_option linter.unusedVariables false
set_option linter.unusedSimpArgs false

theorem homeS_le (l : List Int) (b : Int) (h : ∀ p ∈ l, b < p) : homeS l b = b := by
  induction l with
  | nil => rfl
  | cons x l ih =>
    have := h x List.mem_cons_self
    rw [homeS, if_neg (by omega)]
    exact ih (fun p hp => h p (List.mem_cons_of_mem _ hp))
/-- the home sector of a block is no primary defect, and lies behind just those before it -/
theorem homeS_spec (l : List Int) (hs : l.Pairwise (· < ·)) (b : Int) : homeS l b ∉ l ∧ homeS l b = b + (l.countP (· < homeS l b) : Nat) := by
  induction l generalizing b with
  | nil => simp [homeS]
  | cons x l ih =>
    obtain ⟨h1, h2⟩ := List.pairwise_cons.1 hs
    rw [homeS]
    by_cases hx : x ≤ b
    · rw [if_pos hx]
      obtain ⟨i1, i2⟩ := ih h2 (b + 1)
      have i3 := (homeS_range l (b + 1)).1
      refine ⟨?_, ?_⟩
      · intro h
        rcases List.mem_cons.1 h with h | h
        · omega
        · exact i1 h
      · rw [List.countP_cons_of_pos (by simp; omega)]
        omega
    · rw [if_neg hx]
      have hall : ∀ p ∈ l, b < p := fun p hp => by have := h1 p hp; omega
      have e := homeS_le l b hall
      rw [e]
      refine ⟨?_, ?_⟩
      · intro h
        rcases List.mem_cons.1 h with h | h
        · omega
        · have := hall b h; omega
      · have : (x :: l).countP (· < b) = 0 := by
          rw [List.countP_eq_zero]
          intro p hp
          rcases List.mem_cons.1 hp with rfl | hp
          · simp; omega
          · have := hall p hp; simp; omega
        rw [this]; simp

theorem phys_home {T : Tab} (h : WT T) {b : Int} (hb : 0 ≤ b ∧ b < T.B) (hl : look T.M b = none) : physS T b = (homeS T.P b, 0) := by unfold physS; rw [if_pos hb, hl]
theorem phys_moved {T : Tab} (h : WT T) {b s : Int} (hb : 0 ≤ b ∧ b < T.B) (hl : look T.M b = some s) : physS T b = ((T.B : Int) + T.P.length + s, 0) := by unfold physS; rw [if_pos hb, hl]
theorem phys_err {T : Tab} (h : WT T) {b : Int} (hb : 0 ≤ b ∧ b < T.B) : (physS T b).2 = 0 := by unfold physS; rw [if_pos hb]
theorem home_range {T : Tab} (h : WT T) {b : Int} (hb : 0 ≤ b ∧ b < T.B) : 0 ≤ homeS T.P b ∧ homeS T.P b < (T.B : Int) + T.P.length := by
  have := homeS_range T.P b; omega
theorem phys_range {T : Tab} (h : WT T) {b : Int} (hb : 0 ≤ b ∧ b < T.B) : 0 ≤ (physS T b).1 ∧ (physS T b).1 < (T.B : Int) + T.P.length + T.S := by
  cases hl : look T.M b with
  | none => rw [phys_home h hb hl]; have := home_range h hb; simp only; omega
  | some s =>
    rw [phys_moved h hb hl]
    have h1 := h.val _ (look_mem hl)
    have h2 := h.u
    simp only at h1 ⊢; omega
theorem block_home {T : Tab} (h : WT T) {b : Int} (hb : 0 ≤ b ∧ b < T.B) (hl : look T.M b = none) : blockS T (homeS T.P b) = (b, true) := by
  obtain ⟨h1, h2⟩ := homeS_spec T.P h.srt b
  have h3 := home_range h hb
  have hat : atS T (homeS T.P b) = b := by unfold atS; omega
  unfold blockS
  rw [if_neg (by omega), hat, if_neg]
  rintro (h | h | h)
  · exact h1 (by simpa using h)
  · rw [hl] at h; simp at h
  · exact h hb
theorem block_spare {T : Tab} (h : WT T) {x : Int × Int} (hx : x ∈ T.M) : blockS T ((T.B : Int) + T.P.length + x.2) = (x.1, true) := by
  have := h.val _ hx
  unfold blockS
  rw [if_pos (by omega), show (T.B : Int) + T.P.length + x.2 - ((T.B : Int) + T.P.length) = x.2 by omega, valAt_some h.inj hx]
theorem block_phys {T : Tab} (h : WT T) {b : Int} (hb : 0 ≤ b ∧ b < T.B) : blockS T (physS T b).1 = (b, true) := by
  cases hl : look T.M b with
  | none => rw [phys_home h hb hl]; exact block_home h hb hl
  | some s => rw [phys_moved h hb hl]; exact block_spare h (look_mem hl)
theorem phys_inj {T : Tab} (h : WT T) {a b : Int} (ha : 0 ≤ a ∧ a < T.B) (hb : 0 ≤ b ∧ b < T.B) (e : (physS T a).1 = (physS T b).1) : a = b := by
  have h1 := block_phys h ha
  have h2 := block_phys h hb
  rw [e, h2] at h1
  exact (congrArg Prod.fst h1).symm
theorem home_inj {T : Tab} (h : WT T) {a b : Int} (ha : 0 ≤ a ∧ a < T.B) (hb : 0 ≤ b ∧ b < T.B) (e : homeS T.P a = homeS T.P b) : a = b := by
  have h1 := (homeS_spec T.P h.srt a).2
  have h2 := (homeS_spec T.P h.srt b).2
  rw [e] at h1
  omega
/-- a spare sector that has been used and holds no block any more -/
theorem freed_iff {T : Tab} (h : WT T) {i : Nat} : (blockS T (spareAt T i)).2 = false ↔ ∀ x ∈ T.M, x.2 ≠ (i : Int) := by
  unfold blockS spareAt
  rw [if_pos (by omega), show (T.B : Int) + T.P.length + i - ((T.B : Int) + T.P.length) = i by omega]
  constructor
  · intro hf x hx e
    rw [← e, valAt_some h.inj hx] at hf
    cases hf
  · intro hno
    rw [valAt_none hno]
theorem mem_freed {T : Tab} (h : WT T) {k : Nat} {s : Int} : s ∈ freedL T k ↔ ∃ i : Nat, i < k ∧ s = spareAt T i ∧ ∀ x ∈ T.M, x.2 ≠ (i : Int) := by
  unfold freedL
  rw [List.mem_map]
  constructor
  · rintro ⟨i, hi, rfl⟩
    rw [List.mem_filter] at hi
    exact ⟨i, by simpa using hi.1, rfl, (freed_iff h).1 (by simpa using hi.2)⟩
  · rintro ⟨i, hi, rfl, hno⟩
    exact ⟨i, List.mem_filter.2 ⟨by simpa using hi, by rw [(freed_iff h).2 hno]; rfl⟩, rfl⟩
theorem mem_bad {T : Tab} (h : WT T) {s : Int} : s ∈ badS T ↔ s ∈ T.P ∨ (∃ x ∈ T.M, s = homeS T.P x.1) ∨ ∃ i : Nat, i < T.u ∧ s = spareAt T i ∧ ∀ x ∈ T.M, x.2 ≠ (i : Int) := by
  unfold badS
  rw [(sortS_perm _).mem_iff]
  unfold rawBad homesL
  rw [List.mem_append, List.mem_append, mem_freed h, List.mem_map, or_assoc]
  constructor
  · rintro (h | ⟨x, hx, rfl⟩ | h)
    · exact .inl h
    · exact .inr (.inl ⟨x, hx, rfl⟩)
    · exact .inr (.inr h)
  · rintro (h | ⟨x, hx, rfl⟩ | h)
    · exact .inl h
    · exact .inr (.inl ⟨x, hx, rfl⟩)
    · exact .inr (.inr h)
theorem bad_range {T : Tab} (h : WT T) {s : Int} (hs : s ∈ badS T) : 0 ≤ s ∧ s < (T.B : Int) + T.P.length + T.S := by
  have hu := h.u
  rcases (mem_bad h).1 hs with hs | ⟨x, hx, rfl⟩ | ⟨i, hi, rfl, _⟩
  · have := h.rng s hs; omega
  · have := home_range h (h.key x hx); omega
  · unfold spareAt; omega
theorem bad_nodup {T : Tab} (h : WT T) : (badS T).Nodup := by
  unfold badS
  rw [(sortS_perm _).nodup_iff]
  unfold rawBad
  have hn1 : T.P.Nodup := h.srt.imp (fun h => by omega)
  have hn2 : (homesL T T.M).Nodup := by
    unfold homesL
    refine List.Pairwise.map _ (fun a b hab => hab) ?_
    have hs : T.M.Pairwise (fun a b => a.1 < b.1) := h.msrt
    have : T.M.Pairwise (fun a b => a ∈ T.M ∧ b ∈ T.M ∧ a.1 < b.1) := by
      rw [List.pairwise_iff_getElem] at hs ⊢
      intro i j hi hj hij
      exact ⟨List.getElem_mem hi, List.getElem_mem hj, hs i j hi hj hij⟩
    refine this.imp (fun {a b} hab e => ?_)
    have := home_inj h (h.key a hab.1) (h.key b hab.2.1) e
    omega
  have hn3 : (freedL T T.u).Nodup := by
    unfold freedL
    refine List.Pairwise.map _ (fun a b hab => hab) ?_
    refine (List.Pairwise.filter _ List.pairwise_lt_range).imp (fun {a b} hab e => ?_)
    unfold spareAt at e
    omega
  rw [List.nodup_append, List.nodup_append]
  refine ⟨⟨hn1, hn2, ?_⟩, hn3, ?_⟩
  · intro a ha b hb e
    subst e
    unfold homesL at hb
    obtain ⟨x, hx, rfl⟩ := List.mem_map.1 hb
    exact (homeS_spec T.P h.srt x.1).1 ha
  · intro a ha b hb e
    subst e
    obtain ⟨i, hi, rfl, _⟩ := (mem_freed h).1 hb
    unfold spareAt at ha
    rcases List.mem_append.1 ha with ha | ha
    · have := h.rng _ ha; omega
    · unfold homesL at ha
      obtain ⟨x, hx, e⟩ := List.mem_map.1 ha
      have := home_range h (h.key x hx)
      omega
theorem bad_phys {T : Tab} (h : WT T) {b : Int} (hb : 0 ≤ b ∧ b < T.B) : (physS T b).1 ∉ badS T := by
  intro hm
  cases hl : look T.M b with
  | none =>
    rw [phys_home h hb hl] at hm
    have hr := home_range h hb
    rcases (mem_bad h).1 hm with hm | ⟨x, hx, e⟩ | ⟨i, hi, e, _⟩
    · exact (homeS_spec T.P h.srt b).1 hm
    · have := home_inj h hb (h.key x hx) e
      have hl2 := mem_look (k := x.1) (v := x.2) h.msrt hx
      rw [← this, hl] at hl2
      cases hl2
    · unfold spareAt at e; simp only at e; omega
  | some s =>
    rw [phys_moved h hb hl] at hm
    have hx := look_mem hl
    have hv := h.val _ hx
    simp only at hv
    rcases (mem_bad h).1 hm with hm | ⟨x, hx', e⟩ | ⟨i, hi, e, hno⟩
    · have := h.rng _ hm; omega
    · have := home_range h (h.key x hx'); simp only at e; omega
    · unfold spareAt at e; simp only at e
      exact hno _ hx (by simp only; omega)

theorem filter_split {α : Type} (p : α → Bool) (l : List α) : (l.filter p).length + (l.filter (fun x => !p x)).length = l.length := by
  induction l with
  | nil => rfl
  | cons x l ih => cases h : p x <;> simp [h] <;> omega
/-- distinct numbers below N: so many are not among them -/
theorem count_out {L : List Int} (hn : L.Nodup) {N : Nat} (hr : ∀ s ∈ L, 0 ≤ s ∧ s < (N : Int)) : ((List.range N).filter (fun i : Nat => !(L.contains (i : Int)))).length + L.length = N := by
  have h1 : ((List.range N).filter (fun i : Nat => L.contains (i : Int))).length = L.length := by
    have hp : (((List.range N).filter (fun i : Nat => L.contains (i : Int))).map (fun i : Nat => (i : Int))).Perm L := by
      refine (List.perm_ext_iff_of_nodup ?_ hn).2 (fun s => ?_)
      · refine List.Pairwise.map _ (fun a b hab => hab) ?_
        exact (List.Pairwise.filter _ List.pairwise_lt_range).imp (fun {a b} hab e => by omega)
      · rw [List.mem_map]
        constructor
        · rintro ⟨i, hi, rfl⟩
          have := (List.mem_filter.1 hi).2
          simpa using this
        · intro hs
          have := hr s hs
          refine ⟨s.toNat, List.mem_filter.2 ⟨by simp; omega, ?_⟩, by omega⟩
          rw [show ((s.toNat : Nat) : Int) = s by omega]
          simpa using hs
    have := hp.length_eq
    simpa using this
  have h2 := filter_split (fun i : Nat => L.contains (i : Int)) (List.range N)
  rw [List.length_range] at h2
  omega

theorem freed_length {T : Tab} (h : WT T) : (freedL T T.u).length + T.M.length = T.u := by
  have hn : (T.M.map (·.2)).Nodup := by
    have hs : T.M.Pairwise (fun a b => a.1 < b.1) := h.msrt
    refine List.Pairwise.map _ (fun a b hab => hab) ?_
    rw [List.pairwise_iff_getElem] at hs ⊢
    intro i j hi hj hij e
    have := h.inj _ (List.getElem_mem hi) _ (List.getElem_mem hj) e
    have h2 := hs i j hi hj hij
    rw [this] at h2
    omega
  have hr : ∀ s ∈ T.M.map (·.2), 0 ≤ s ∧ s < (T.u : Int) := by
    intro s hs
    obtain ⟨x, hx, rfl⟩ := List.mem_map.1 hs
    exact h.val x hx
  have := count_out hn hr
  unfold freedL
  rw [List.length_map]
  rw [List.length_map] at this
  refine Eq.trans ?_ this
  congr 2
  refine List.filter_congr (fun i hi => ?_)
  cases hb : (blockS T (spareAt T i)).2 with
  | true =>
    cases hc : (T.M.map (·.2)).contains (i : Int) with
    | true => rfl
    | false =>
      have : ∀ x ∈ T.M, x.2 ≠ (i : Int) := by
        intro x hx e
        have : (i : Int) ∈ T.M.map (·.2) := List.mem_map.2 ⟨x, hx, e⟩
        rw [List.contains_eq_mem, decide_eq_true this] at hc
        cases hc
      rw [(freed_iff h).2 this] at hb
      cases hb
  | false =>
    cases hc : (T.M.map (·.2)).contains (i : Int) with
    | false => rfl
    | true =>
      have := List.mem_map.1 (by simpa using hc : (i : Int) ∈ T.M.map (·.2))
      obtain ⟨x, hx, e⟩ := this
      exact absurd e ((freed_iff h).1 hb x hx)
theorem bad_length {T : Tab} (h : WT T) : (badS T).length = T.P.length + T.u := by
  unfold badS rawBad homesL
  rw [sortS_length, List.length_append, List.length_append, List.length_map]
  have := freed_length h
  omega

/-! a replacement -/
theorem phys_put {T : Tab} (h : WT T) {b : Int} (hb : 0 ≤ b ∧ b < T.B) (i : Int) : physS (putT T b) i = if i = b then ((T.B : Int) + T.P.length + T.u, 0) else physS T i := by
  by_cases e : i = b
  · subst e
    rw [if_pos rfl]
    unfold physS putT
    simp only [look_putL]
    rw [if_pos hb]; simp
  · rw [if_neg e]
    unfold physS putT
    simp only [look_putL, if_neg (fun h' : b = i => e h'.symm)]
theorem phys_new {T : Tab} (h : WT T) {i : Int} (hi : 0 ≤ i ∧ i < T.B) : (physS T i).1 < (T.B : Int) + T.P.length + T.u := by
  cases hl : look T.M i with
  | none => rw [phys_home h hi hl]; have := home_range h hi; simp only; omega
  | some s =>
    rw [phys_moved h hi hl]
    have h1 := h.val _ (look_mem hl)
    simp only at h1 ⊢; omega
end Go.Proofs.Ytlifinlideiloaa
