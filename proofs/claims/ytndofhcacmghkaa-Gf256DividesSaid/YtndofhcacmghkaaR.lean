import Derived.Test.YtndofhcacmghkaaQ
/-! A product plus a polynomial of a lesser degree has this one as its remainder. -/
namespace Go.Proofs.Ytndofhcacmghkaa
set_option linter.unusedVariables false
set_option linter.unusedSimpArgs false
open Go.RowKit GF
open Go.Proofs.YtndofhcacmghkaaW.PrintWords

theorem ext_getD {l m : List E} (h : l.length = m.length) (h2 : ∀ i, i < l.length → l.getD i 0 = m.getD i 0) : l = m := by
  apply List.ext_getElem h
  intro i h3 h4
  have := h2 i h3
  rwa [List.getD_eq_getElem?_getD, List.getD_eq_getElem?_getD, List.getElem?_eq_getElem h3, List.getElem?_eq_getElem h4] at this

/-- r added to the last coefficients: k of them; d is where they begin -/
def adS (d : Nat) (r : List Int) : Nat → List Int → List Int
  | 0, s => s
  | k + 1, s => (adS d r k s).set (d + k) (Go.bits .xor .u8 (rd (adS d r k s) ((d + k : Nat) : Int)) (rd r k))
theorem adS_length (d : Nat) (r : List Int) (k : Nat) (s : List Int) : (adS d r k s).length = s.length := by
  induction k with
  | zero => rfl
  | succ k ih => rw [adS, List.length_set, ih]
def adE (d : Nat) (r : List E) : Nat → List E → List E
  | 0, s => s
  | k + 1, s => (adE d r k s).set (d + k) ((adE d r k s).getD (d + k) 0 + r.getD k 0)
theorem adE_length (d : Nat) (r : List E) (k : Nat) (s : List E) : (adE d r k s).length = s.length := by
  induction k with
  | zero => rfl
  | succ k ih => rw [adE, List.length_set, ih]
theorem adS_map (d : Nat) (r : List E) (k : Nat) (s : List E) : adS d (r.map toI) k (s.map toI) = (adE d r k s).map toI := by
  induction k with
  | zero => rfl
  | succ k ih => rw [adS, ih, rd_map, rd_map, toI_xor, adE, List.map_set]
theorem adE_at (d : Nat) (r : List E) (k : Nat) (s : List E) (m : Nat) (h : d + k ≤ s.length) :
    (adE d r k s).getD m 0 = s.getD m 0 + (if d ≤ m ∧ m < d + k then r.getD (m - d) 0 else 0) := by
  induction k with
  | zero => rw [if_neg (by omega), add_ze]; rfl
  | succ k ih =>
    have hl := adE_length d r k s
    by_cases e : m = d + k
    · subst e
      rw [adE, List.getD_eq_getElem?_getD, List.getElem?_set_self (by omega), Option.getD_some, ih (by omega), if_neg (by omega), if_pos (by omega), add_ze, show d + k - d = k by omega]
    · rw [adE, List.getD_eq_getElem?_getD, List.getElem?_set_ne (fun h => e h.symm), ← List.getD_eq_getElem?_getD, ih (by omega)]
      by_cases h : d ≤ m ∧ m < d + k
      · rw [if_pos h, if_pos (by omega)]
      · rw [if_neg h, if_neg (by omega)]

theorem getD_zeros (n m : Nat) : (List.replicate n (0 : E)).getD m 0 = 0 := by
  rw [List.getD_eq_getElem?_getD, List.getElem?_replicate]; split <;> rfl
theorem outE_succ_at (p q : List E) (i m : Nat) (hi : i < p.length) (hq : 0 < q.length) :
    (outE p q (i + 1)).getD m 0 = (outE p q i).getD m 0 + (if i ≤ m ∧ m < i + q.length then p.getD i 0 * q.getD (m - i) 0 else 0) := by
  rw [outE, inE_at _ _ _ _ _ _ (by rw [outE_length]; omega)]
theorem outE_late (p q : List E) (j i : Nat) (hq : 0 < q.length) (h : j + 1 ≤ i) (hi : i ≤ p.length) : (outE p q i).getD j 0 = (outE p q (j + 1)).getD j 0 := by
  induction i with
  | zero => omega
  | succ i ih =>
    by_cases e : i = j
    · subst e; rfl
    · rw [outE_succ_at p q i j (by omega) hq, if_neg (by omega), add_ze, ih (by omega) (by omega)]

theorem outQE_sum (p q : List E) (inv : E) (hinv : q.getD 0 0 * inv = 1) (hq : 0 < q.length) (s : List E) (hl : s.length = p.length + q.length - 1)
    (hs : ∀ m, m < p.length → s.getD m 0 = (outE p q p.length).getD m 0) (j : Nat) (hj : j ≤ p.length) (m : Nat) :
    (outQE q inv s j).getD m 0 = s.getD m 0 + (outE p q j).getD m 0 := by
  induction j generalizing m with
  | zero => rw [outQE, outE, getD_zeros, add_ze]
  | succ j ih =>
    rw [outQE, inE_at _ _ _ _ _ _ (by rw [outQE_length]; omega), outE_succ_at p q j m (by omega) hq, ih (by omega), ih (by omega), hs j (by omega),
      outE_late p q j p.length hq (by omega) (Nat.le_refl _), outE_succ_at p q j j (by omega) hq, if_pos (show j ≤ j ∧ j < j + q.length by omega), Nat.sub_self]
    have e : ((outE p q j).getD j 0 + p.getD j 0 * q.getD 0 0 + (outE p q j).getD j 0) * inv = p.getD j 0 := by
      have : (outE p q j).getD j 0 + p.getD j 0 * q.getD 0 0 + (outE p q j).getD j 0 = p.getD j 0 * q.getD 0 0 := by
        rw [add_co ((outE p q j).getD j 0), add_as, add_se, add_ze]
      rw [this, mul_as, hinv, mul_on]
    rw [e, add_as]

theorem trimE_self {q : List E} (h : q.getD 0 0 ≠ 0) : trimE q = q := by
  cases q with
  | nil => rfl
  | cons a l =>
    rw [trimE, if_neg]
    intro e
    exact h (E.ext' e)

theorem rem_divides (p q r : List E) (hq : 0 < q.length) (h0 : q.getD 0 0 ≠ 0) (hr : r.length ≤ q.length - 1) (s : List E)
    (hs : (p = [] ∧ s = List.replicate r.length 0) ∨ (p ≠ [] ∧ s = outE p q p.length)) :
    remS ((adE (s.length - r.length) r r.length s).map toI) (q.map toI) = ((List.replicate (q.length - 1 - r.length) 0 ++ r).map toI, 0) := by
  have ht := trimE_self h0
  obtain ⟨inv, hi, he⟩ := remS_E (adE (s.length - r.length) r r.length s) q (by rw [ht]; exact hq)
  rw [ht] at hi he
  rw [he, adE_length]
  refine congrArg (fun l => (List.map toI l, (0 : Int))) ?_
  rcases hs with ⟨hp, rfl⟩ | ⟨hp, rfl⟩
  · have hl : (List.replicate r.length (0 : E)).length = r.length := by simp
    rw [hl, show r.length - (q.length - 1) = 0 by omega, Nat.sub_zero, List.drop_zero, outQE]
    congr 1
    refine ext_getD (by rw [adE_length, hl]) (fun m hm => ?_)
    rw [adE_length, hl] at hm
    rw [adE_at _ _ _ _ _ (by rw [hl]; omega), getD_zeros, ze_add, if_pos (by omega), show m - (r.length - r.length) = m by omega]
  · have hpl := List.length_pos_iff.2 hp
    have hl := outE_length p q p.length
    rw [hl, show p.length + q.length - 1 - (q.length - 1) = p.length by omega, show q.length - 1 - (p.length + q.length - 1 - p.length) = 0 by omega]
    rw [List.replicate_zero, List.nil_append]
    have hd : p.length + q.length - 1 - r.length + r.length ≤ (outE p q p.length).length := by rw [hl]; omega
    refine ext_getD (by simp [outQE_length, adE_length, hl]; omega) (fun m hm => ?_)
    rw [List.length_drop, outQE_length, adE_length, hl] at hm
    rw [List.getD_eq_getElem?_getD, List.getElem?_drop, ← List.getD_eq_getElem?_getD]
    rw [outQE_sum p q inv hi hq _ (by rw [adE_length, hl]) (fun m hm => by rw [adE_at _ _ _ _ _ hd, if_neg (by omega), add_ze]) p.length (Nat.le_refl _)]
    rw [adE_at _ _ _ _ _ hd]
    rw [add_co ((outE p q p.length).getD (p.length + m) 0), add_as, add_se, add_ze]
    by_cases hm2 : m < q.length - 1 - r.length
    · rw [if_neg (by omega), List.getD_eq_getElem?_getD, List.getElem?_append_left (by simpa using hm2), ← List.getD_eq_getElem?_getD, getD_zeros]
    · rw [if_pos (by omega), List.getD_eq_getElem?_getD, List.getD_eq_getElem?_getD, List.getElem?_append_right (by simp; omega), List.length_replicate]
      congr 2
      omega
end Go.Proofs.Ytndofhcacmghkaa
