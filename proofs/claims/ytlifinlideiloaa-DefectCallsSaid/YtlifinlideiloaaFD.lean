import Derived.Test.YtlifinlideiloaaDI
import Derived.Test.YtlifinlideiloaaK7
/-! The reference's lists, in plain words: the homes, the sectors of all blocks, the bad sectors, the block of a sector. -/
namespace Go.Proofs.Ytlifinlideiloaa
set_option linter.unusedVariables false
set_option linter.unusedSimpArgs false
open Go.RowKit Go.Proofs
open Go.Proofs.YtlifinlideiloaaW.PrintWords

def cnt (l : List Int) (s : Int) : Nat := l.countP (· < s)
theorem cnt_step (l : List Int) (hs : l.Pairwise (· < ·)) (s : Int) : cnt l (s + 1) = cnt l s + if l.contains s then 1 else 0 := by
  unfold cnt
  induction l with
  | nil => rfl
  | cons x l ih =>
    obtain ⟨h1, h2⟩ := List.pairwise_cons.1 hs
    have ih := ih h2
    by_cases hx : x < s
    · rw [List.countP_cons_of_pos (by simp; omega), List.countP_cons_of_pos (by simpa using hx), ih]
      have : (x :: l).contains s = l.contains s := by simp only [List.contains_cons]; rw [show (s == x) = false by simp; omega, Bool.false_or]
      rw [this]; omega
    · by_cases he : x = s
      · subst he
        rw [List.countP_cons_of_pos (by simp; omega), List.countP_cons_of_neg (by simp)]
        have hn : l.contains x = false := by
          cases hc : l.contains x with
          | false => rfl
          | true => have := h1 x (by simpa using hc); omega
        rw [hn] at ih
        simp only [List.contains_cons, beq_self_eq_true, Bool.true_or, if_true]
        simp at ih
        omega
      · rw [List.countP_cons_of_neg (by simp; omega), List.countP_cons_of_neg (by simpa using hx), ih]
        have : (x :: l).contains s = l.contains s := by simp only [List.contains_cons]; rw [show (s == x) = false by simp; omega, Bool.false_or]
        rw [this]
theorem cnt_mono (l : List Int) (hs : l.Pairwise (· < ·)) (s : Int) (d : Nat) : cnt l s ≤ cnt l (s + d) ∧ cnt l (s + d) ≤ cnt l s + d := by
  induction d with
  | zero => simp
  | succ d ih =>
    have := cnt_step l hs (s + d)
    have e : s + ((d + 1 : Nat) : Int) = s + d + 1 := by omega
    rw [e, this]
    split <;> omega
/-- what is no primary defect is the home of the block that its place says -/
theorem home_at (l : List Int) (hs : l.Pairwise (· < ·)) (s : Int) (hn : s ∉ l) : homeS l (s - cnt l s) = s := by
  obtain ⟨g1, g2⟩ := homeS_spec l hs (s - cnt l s)
  obtain ⟨h, hh⟩ : ∃ h, homeS l (s - cnt l s) = h := ⟨_, rfl⟩
  rw [hh] at g1 g2
  rw [hh]
  have key : ∀ a b : Int, a ∉ l → a < b → a - cnt l a < b - cnt l b := by
    intro a b ha hab
    have h1 := cnt_step l hs a
    rw [if_neg (by simpa using ha)] at h1
    have h2 := (cnt_mono l hs (a + 1) (b - (a + 1)).toNat).2
    rw [show a + 1 + ((b - (a + 1)).toNat : Int) = b by omega] at h2
    omega
  have g3 : h - cnt l h = s - cnt l s := by
    have : cnt l h = l.countP (· < h) := rfl
    omega
  by_cases h1 : h < s
  · have := key h s g1 h1; omega
  · by_cases h2 : s < h
    · have := key s h hn h2; omega
    · omega
/-- the homes among the first k sectors -/
def homesK (l : List Int) (k : Nat) : List Int := (List.range (k - cnt l k)).map (fun b : Nat => homeS l b)
theorem cnt_le (l : List Int) (hs : l.Pairwise (· < ·)) (h0 : ∀ p ∈ l, 0 ≤ p) (k : Nat) : cnt l k ≤ k := by
  have := (cnt_mono l hs 0 k).2
  have z : cnt l 0 = 0 := by unfold cnt; rw [List.countP_eq_zero]; intro p hp; have := h0 p hp; simp; omega
  rw [Int.zero_add] at this
  omega
theorem homesK_in (l : List Int) (hs : l.Pairwise (· < ·)) (k : Nat) (h : l.contains (k : Int) = true) : homesK l (k + 1) = homesK l k := by
  have := cnt_step l hs k
  rw [if_pos h] at this
  unfold homesK
  rw [show ((k + 1 : Nat) : Int) = (k : Int) + 1 by omega, this, show k + 1 - (cnt l k + 1) = k - cnt l k by omega]
theorem homesK_out (l : List Int) (hs : l.Pairwise (· < ·)) (h0 : ∀ p ∈ l, 0 ≤ p) (k : Nat) (h : l.contains (k : Int) = false) : homesK l (k + 1) = homesK l k ++ [(k : Int)] := by
  have h1 := cnt_step l hs k
  rw [if_neg (by rw [h]; simp)] at h1
  have h2 := cnt_le l hs h0 k
  have h3 := home_at l hs k (by simpa using h)
  unfold homesK
  rw [show ((k + 1 : Nat) : Int) = (k : Int) + 1 by omega, h1, show k + 1 - (cnt l k + 0) = (k - cnt l k) + 1 by omega, List.range_succ, List.map_append]
  rw [show ((k : Int) - (cnt l k : Nat)) = ((k - cnt l k : Nat) : Int) by omega] at h3
  simp [h3]
theorem homesK_all (l : List Int) (B : Nat) (h : ∀ p ∈ l, p < (B : Int) + l.length) : homesK l (B + l.length) = (List.range B).map (fun b : Nat => homeS l b) := by
  have : cnt l ((B + l.length : Nat) : Int) = l.length := by
    unfold cnt
    rw [List.countP_eq_length]
    intro p hp
    have := h p hp
    simp; omega
  unfold homesK
  rw [this, Nat.add_sub_cancel]
theorem homesK_length (l : List Int) (k : Nat) : (homesK l k).length ≤ k := by unfold homesK; rw [List.length_map, List.length_range]; omega

/-- the table with its first k moved blocks -/
def upT (T : Tab) (k : Nat) : Tab := ⟨T.B, T.S, T.u, T.P, T.M.take k⟩
theorem physL_zero (T : Tab) : physL (upT T 0) T.B = (List.range T.B).map (fun b : Nat => homeS T.P b) := by
  unfold physL
  refine List.map_congr_left (fun b hb => ?_)
  have hb : b < T.B := by simpa using hb
  unfold physS upT
  rw [if_pos ⟨by omega, by simpa using hb⟩]
  rfl
theorem physL_up {T : Tab} (h : WT T) (k : Nat) (hk : k < T.M.length) : (physL (upT T k) T.B).set (T.M[k]).1.toNat ((T.B : Int) + T.P.length + (T.M[k]).2) = physL (upT T (k + 1)) T.B := by
  have hkey := h.key _ (List.getElem_mem hk)
  have hput := putL_last T.M h.msrt k hk
  apply List.ext_getElem
  · simp [physL]
  · intro i h1 h2
    have hi : i < T.B := by simpa [physL] using h2
    have hr : 0 ≤ (i : Int) ∧ (i : Int) < T.B := ⟨by omega, by omega⟩
    have hA : (physL (upT T (k + 1)) T.B)[i] = (physS (upT T (k + 1)) i).1 := by simp [physL]
    have hB : ∀ h', (physL (upT T k) T.B)[i]'h' = (physS (upT T k) i).1 := fun h' => by simp [physL]
    have hC : physS (upT T (k + 1)) i = (match (if (T.M[k]).1 = (i : Int) then some (T.M[k]).2 else look (T.M.take k) i) with | some s => (T.B : Int) + T.P.length + s | none => homeS T.P i, 0) := by
      unfold physS upT
      rw [if_pos hr]
      simp only []
      rw [← hput, look_putL]
      generalize (if (T.M[k]).1 = (i : Int) then some (T.M[k]).2 else look (T.M.take k) i) = o
      cases o <;> rfl
    rw [List.getElem_set, hA, hC, hB]
    by_cases e : (T.M[k]).1.toNat = i
    · rw [if_pos e, if_pos (by omega)]
    · rw [if_neg e, if_neg (by omega)]
      unfold physS upT
      rw [if_pos hr]
      simp only []
      cases look (T.M.take k) (i : Int) <;> rfl
theorem physL_whole (T : Tab) : physL (upT T T.M.length) T.B = physL T T.B := by unfold upT; rw [List.take_length]
theorem mem_physL {T : Tab} {s : Int} : s ∈ physL T T.B ↔ ∃ b : Nat, b < T.B ∧ (physS T b).1 = s := by
  unfold physL
  rw [List.mem_map]
  constructor
  · rintro ⟨b, hb, e⟩; exact ⟨b, by simpa using hb, e⟩
  · rintro ⟨b, hb, e⟩; exact ⟨b, by simpa using hb, e⟩

/-- the block that the list of all sectors says -/
def findS (l : List Int) (s : Int) (k : Nat) : Prop := ∀ j, j < k → rd l j ≠ s
theorem block_found {T : Tab} (h : WT T) {k : Nat} (hk : k < T.B) (s : Int) (e : rd (physL T T.B) k = s) : blockS T s = ((k : Int), true) := by
  have : rd (physL T T.B) k = (physS T k).1 := by unfold rd physL; simp [List.getD_eq_getElem?_getD, hk]
  rw [← e, this]
  exact block_phys h ⟨by omega, by omega⟩
theorem block_missed {T : Tab} (h : WT T) (s : Int) (hn : s ∉ physL T T.B) : blockS T s = (0, false) := by
  have hno : ∀ b : Int, 0 ≤ b → b < T.B → (physS T b).1 ≠ s := by
    intro b h0 h1 e
    refine hn (mem_physL.2 ⟨b.toNat, by omega, ?_⟩)
    rw [show ((b.toNat : Nat) : Int) = b by omega]; exact e
  unfold blockS
  by_cases hs : (T.B : Int) + T.P.length ≤ s
  · rw [if_pos hs]
    cases hv : valAt T.M (s - ((T.B : Int) + T.P.length)) with
    | none => rfl
    | some k =>
      have hm := valAt_mem hv
      have hk := h.key _ hm
      have hl := mem_look h.msrt hm
      exact absurd (by rw [phys_moved h hk hl]; simp only; omega) (hno k hk.1 hk.2)
  · rw [if_neg hs]
    split
    · rfl
    · rename_i hc
      have c1 : T.P.contains s ≠ true := fun e => hc (.inl e)
      have c2 : (look T.M (atS T s)).isSome ≠ true := fun e => hc (.inr (.inl e))
      have c3 : 0 ≤ atS T s ∧ atS T s < T.B := Classical.not_not.1 (fun e => hc (.inr (.inr e)))
      have hl : look T.M (atS T s) = none := by
        cases e : look T.M (atS T s) with
        | none => rfl
        | some x => rw [e] at c2; simp at c2
      have hat := home_at T.P h.srt s (by simpa using c1)
      exact absurd (by rw [phys_home h c3 hl]; exact hat) (hno _ c3.1 c3.2)

/-- the bad sectors among the first k -/
def badK (T : Tab) (k : Nat) : List Int := ((List.range k).filter (fun s : Nat => !(physL T T.B).contains (s : Int))).map (fun s : Nat => (s : Int))
theorem badK_in (T : Tab) (k : Nat) (h : (physL T T.B).contains (k : Int) = true) : badK T (k + 1) = badK T k := by
  unfold badK
  rw [List.range_succ, List.filter_append]
  rw [show List.filter (fun s : Nat => !(physL T T.B).contains (s : Int)) [k] = [] by rw [List.filter_cons_of_neg (by rw [h]; simp)]; rfl]
  simp
theorem badK_out (T : Tab) (k : Nat) (h : (physL T T.B).contains (k : Int) = false) : badK T (k + 1) = badK T k ++ [(k : Int)] := by
  unfold badK
  rw [List.range_succ, List.filter_append]
  rw [show List.filter (fun s : Nat => !(physL T T.B).contains (s : Int)) [k] = [k] by rw [List.filter_cons_of_pos (by rw [h]; rfl)]; rfl]
  simp
theorem badK_length (T : Tab) (k : Nat) : (badK T k).length ≤ k := by
  unfold badK
  rw [List.length_map]
  have := List.length_filter_le (fun s : Nat => !(physL T T.B).contains (s : Int)) (List.range k)
  simpa using this
theorem mem_badK {T : Tab} {k : Nat} {s : Int} : s ∈ badK T k ↔ 0 ≤ s ∧ s < k ∧ s ∉ physL T T.B := by
  unfold badK
  rw [List.mem_map]
  constructor
  · rintro ⟨i, hi, rfl⟩
    rw [List.mem_filter] at hi
    exact ⟨by omega, by have := hi.1; simp at this; omega, by simpa using hi.2⟩
  · rintro ⟨h0, h1, h2⟩
    refine ⟨s.toNat, List.mem_filter.2 ⟨by simp; omega, ?_⟩, by omega⟩
    rw [show ((s.toNat : Nat) : Int) = s by omega]
    simpa using h2
theorem badK_sorted (T : Tab) (k : Nat) : (badK T k).Pairwise (· ≤ ·) := by
  unfold badK
  rw [List.pairwise_map]
  refine List.Pairwise.filter _ ?_
  exact (List.pairwise_lt_range (n := k)).imp (fun h => by omega)
theorem badK_nodup (T : Tab) (k : Nat) : (badK T k).Nodup := by
  unfold badK
  unfold List.Nodup
  rw [List.pairwise_map]
  refine List.Pairwise.filter _ ?_
  exact (List.pairwise_lt_range (n := k)).imp (fun h => by omega)
theorem bad_ref {T : Tab} (h : WT T) : badK T (T.B + T.P.length + T.u) = badS T := by
  refine sorted_unique ?_ (badK_sorted _ _) (sortS_sorted _)
  refine (List.perm_ext_iff_of_nodup (badK_nodup _ _) (bad_nodup h)).2 (fun s => ?_)
  rw [mem_badK]
  constructor
  · rintro ⟨h0, h1, h2⟩
    have hno : ∀ b : Int, 0 ≤ b → b < T.B → (physS T b).1 ≠ s := by
      intro b g0 g1 e
      refine h2 (mem_physL.2 ⟨b.toNat, by omega, ?_⟩)
      rw [show ((b.toNat : Nat) : Int) = b by omega]; exact e
    rw [mem_bad h]
    by_cases hp : s ∈ T.P
    · exact .inl hp
    · by_cases hlo : s < (T.B : Int) + T.P.length
      · right; left
        have hat := home_at T.P h.srt s hp
        have c0 : 0 ≤ s - cnt T.P s := by
          have := cnt_le T.P h.srt (fun p hp => (h.rng p hp).1) s.toNat
          rw [show ((s.toNat : Nat) : Int) = s by omega] at this
          omega
        have c1 : s - cnt T.P s < T.B := by
          have h3 := (homeS_range T.P (s - cnt T.P s)).1
          have hk := homesK_all T.P T.B (fun p hp => (h.rng p hp).2)
          have hc : cnt T.P ((T.B + T.P.length : Nat) : Int) = T.P.length := by
            unfold cnt
            rw [List.countP_eq_length]
            intro p hp
            have := (h.rng p hp).2
            simp; omega
          have h4 := (cnt_mono T.P h.srt (s + 1) ((T.B : Int) + T.P.length - (s + 1)).toNat).2
          have h5 := cnt_step T.P h.srt s
          rw [if_neg (by simpa using hp)] at h5
          rw [show s + 1 + ((((T.B : Int) + T.P.length - (s + 1)).toNat : Nat) : Int) = ((T.B + T.P.length : Nat) : Int) by omega, hc] at h4
          omega
        cases hl : look T.M (s - cnt T.P s) with
        | none => exact absurd (by rw [phys_home h ⟨c0, c1⟩ hl]; exact hat) (hno _ c0 c1)
        | some x => exact ⟨_, look_mem hl, hat.symm⟩
      · right; right
        refine ⟨(s - ((T.B : Int) + T.P.length)).toNat, by omega, by unfold spareAt; omega, fun x hx e => ?_⟩
        have hk := h.key _ hx
        exact hno _ hk.1 hk.2 (by rw [phys_moved h hk (mem_look h.msrt hx)]; simp only; omega)
  · intro hs
    have h0 := (bad_range h hs).1
    refine ⟨h0, ?_, ?_⟩
    · rcases (mem_bad h).1 hs with hp | ⟨x, hx, rfl⟩ | ⟨i, hi, rfl, -⟩
      · have := (h.rng _ hp).2; omega
      · have := home_range h (h.key x hx); omega
      · unfold spareAt; omega
    · intro hm
      obtain ⟨b, hb, rfl⟩ := mem_physL.1 hm
      exact bad_phys h ⟨by omega, by omega⟩ hs
end Go.Proofs.Ytlifinlideiloaa
