import Derived.Test.YtndofhcacmghkaaP
import Derived.Test.YtndofhcacmghkaaHk
/-! The walks' lists are polynomials over the field. -/
namespace Go.Proofs.Ytndofhcacmghkaa
set_option linter.unusedVariables false
set_option linter.unusedSimpArgs false
open Go.RowKit GF
open Go.Proofs.YtndofhcacmghkaaW.PrintWords

def toI (e : E) : Int := (e.v : Int)
theorem toI_zero : toI 0 = 0 := rfl
theorem toI_one : toI 1 = 1 := rfl
theorem toI_inj {a b : E} (h : toI a = toI b) : a = b := E.ext' (by unfold toI at h; omega)
theorem toI_eq_zero {a : E} : toI a = 0 ↔ a = 0 := ⟨fun h => toI_inj h, fun h => by rw [h]; rfl⟩
theorem toI_range (a : E) : 0 ≤ toI a ∧ toI a ≤ 255 := by have := a.h; unfold toI; omega
theorem toI_mul (a b : E) : mulS (toI a) (toI b) = toI (a * b) := mulS_nat a.v b.v a.h b.h
theorem toI_xor (a b : E) : Go.bits .xor .u8 (toI a) (toI b) = toI (a + b) := xor_nat a.v b.v a.h b.h
theorem lift1 {a : Int} (h : 0 ≤ a ∧ a ≤ 255) : ∃ e : E, a = toI e := ⟨⟨a.toNat, by omega⟩, by unfold toI; simp; omega⟩
theorem lift {l : List Int} (h : InB l) : ∃ le : List E, l = le.map toI := by
  induction l with
  | nil => exact ⟨[], rfl⟩
  | cons a l ih =>
    obtain ⟨le, rfl⟩ := ih (fun x hx => h x (List.mem_cons_of_mem _ hx))
    obtain ⟨e, rfl⟩ := lift1 (h a List.mem_cons_self)
    exact ⟨e :: le, rfl⟩
theorem rd_map (l : List E) (k : Nat) : rd (l.map toI) (k : Int) = toI (l.getD k 0) := by
  simp only [rd, Int.toNat_natCast, List.getD_eq_getElem?_getD, List.getElem?_map]
  cases l[k]? <;> rfl
theorem foldE_map (x : E) (l : List E) (s : E) : foldE (toI x) (l.map toI) (toI s) = toI (l.foldl (fun s c => s * x + c) s) := by
  induction l generalizing s with
  | nil => rfl
  | cons c l ih =>
    show foldE (toI x) (l.map toI) (Go.bits .xor .u8 (mulS (toI s) (toI x)) (toI c)) = _
    rw [toI_mul, toI_xor, ih]; rfl
theorem foldE_ev (x : E) (l : List E) : foldE (toI x) (l.map toI) 0 = toI (ev x l) := foldE_map x l 0
theorem inS_map (q : List E) (f : E) (i k : Nat) (r : List E) : inS (q.map toI) (toI f) i k (r.map toI) = (inE q f i k r).map toI := by
  induction k with
  | zero => rfl
  | succ k ih => rw [inS, ih, rd_map, rd_map, toI_mul, toI_xor, inE, List.map_set]
theorem outP_map (p q : List E) (i : Nat) : outP (p.map toI) (q.map toI) i = (outE p q i).map toI := by
  induction i with
  | zero => simp only [outP, outE, List.length_map, List.map_replicate]; rfl
  | succ i ih => rw [outP, ih, rd_map, List.length_map, inS_map, outE]
theorem prodS_map (p q : List E) (hp : p ≠ []) (hq : q ≠ []) : prodS (p.map toI) (q.map toI) = (outE p q p.length).map toI := by
  unfold prodS
  rw [if_neg (by simp [hp, hq]), List.length_map, outP_map]
theorem prodS_nil (p q : List Int) (h : p = [] ∨ q = []) : prodS p q = [] := by unfold prodS; rw [if_pos h]

theorem ev_prodS {p q : List Int} (hp : InB p) (hq : InB q) {x : Int} (hx : 0 ≤ x ∧ x ≤ 255) : foldE x (prodS p q) 0 = mulS (foldE x p 0) (foldE x q 0) := by
  obtain ⟨x, rfl⟩ := lift1 hx
  obtain ⟨p, rfl⟩ := lift hp
  obtain ⟨q, rfl⟩ := lift hq
  by_cases h : p = [] ∨ q = []
  · rw [prodS_nil _ _ (by simpa using h), foldE_ev, foldE_ev, toI_mul]
    rcases h with rfl | rfl
    · rw [ev_nil, ze_mul]; rfl
    · rw [ev_nil, mul_ze]; rfl
  · have h1 : p ≠ [] := fun e => h (.inl e)
    have h2 : q ≠ [] := fun e => h (.inr e)
    rw [prodS_map p q h1 h2, foldE_ev, foldE_ev, foldE_ev, toI_mul, ev_product x p q (List.length_pos_iff.2 h2)]

/-- the rows of the division -/
def outQE (q : List E) (inv : E) (p : List E) : Nat → List E
  | 0 => p
  | i + 1 => inE q ((outQE q inv p i).getD i 0 * inv) i q.length (outQE q inv p i)
theorem outQE_length (q : List E) (inv : E) (p : List E) (i : Nat) : (outQE q inv p i).length = p.length := by
  induction i with
  | zero => rfl
  | succ i ih => rw [outQE, inE_length, ih]
theorem outQ_map (q : List E) (inv : E) (p : List E) (i : Nat) : outQ (q.map toI) (toI inv) (p.map toI) i = (outQE q inv p i).map toI := by
  induction i with
  | zero => rfl
  | succ i ih => rw [outQ, ih, rd_map, toI_mul, List.length_map, inS_map, outQE]
/-- a coefficient of a row to which f times q was added -/
theorem inE_at (q : List E) (f : E) (i k : Nat) (r : List E) (m : Nat) (hr : i + k ≤ r.length) :
    (inE q f i k r).getD m 0 = r.getD m 0 + (if i ≤ m ∧ m < i + k then f * q.getD (m - i) 0 else 0) := by
  induction k with
  | zero => rw [if_neg (by omega), add_ze]; rfl
  | succ k ih =>
    have hl := inE_length q f i k r
    by_cases e : m = i + k
    · subst e
      rw [inE, List.getD_eq_getElem?_getD, List.getElem?_set_self (by omega), Option.getD_some, ih (by omega), if_neg (by omega), if_pos (by omega), add_ze, show i + k - i = k by omega]
    · rw [inE, List.getD_eq_getElem?_getD, List.getElem?_set_ne (fun h => e h.symm), ← List.getD_eq_getElem?_getD, ih (by omega)]
      by_cases h : i ≤ m ∧ m < i + k
      · rw [if_pos h, if_pos (by omega)]
      · rw [if_neg h, if_neg (by omega)]
theorem outQE_zero (q : List E) (inv : E) (p : List E) (hinv : q.getD 0 0 * inv = 1) (j : Nat) (hq : 0 < q.length) (hj : j + (q.length - 1) ≤ p.length) (m : Nat) (hm : m < j) : (outQE q inv p j).getD m 0 = 0 := by
  induction j with
  | zero => omega
  | succ j ih =>
    rw [outQE, inE_at _ _ _ _ _ _ (by rw [outQE_length]; omega)]
    by_cases e : m = j
    · subst e
      rw [if_pos (by omega), Nat.sub_self, mul_as, mul_co inv, hinv, mul_on, add_se]
    · rw [if_neg (by omega), add_ze, ih (by omega) (by omega)]
theorem ev_outQE (x : E) (q : List E) (inv : E) (p : List E) (hx : ev x q = 0) (j : Nat) (hq : 0 < q.length) (hj : j + (q.length - 1) ≤ p.length) : ev x (outQE q inv p j) = ev x p := by
  induction j with
  | zero => rfl
  | succ j ih =>
    rw [outQE, ev_inE_all _ _ _ _ _ (by rw [outQE_length]; omega), hx, ze_mul, mul_ze, add_ze, ih (by omega)]
theorem ev_drop (x : E) (l : List E) (j : Nat) (h : ∀ m, m < j → l.getD m 0 = 0) (hj : j ≤ l.length) : ev x (l.drop j) = ev x l := by
  have e : l = List.replicate j 0 ++ l.drop j := by
    apply List.ext_getElem?
    intro m
    by_cases hm : m < j
    · rw [List.getElem?_append_left (by simpa using hm), List.getElem?_replicate, if_pos hm]
      have := h m hm
      rw [List.getD_eq_getElem?_getD, List.getElem?_eq_getElem (show m < l.length by omega)] at this
      rw [List.getElem?_eq_getElem (show m < l.length by omega)]
      exact congrArg some this
    · rw [List.getElem?_append_right (by simpa using hm), List.length_replicate, List.getElem?_drop, show j + (m - j) = m by omega]
  conv => rhs; rw [e]
  rw [ev_append, ev_zeros, ze_mul, ze_add]

def trimE : List E → List E
  | [] => []
  | x :: l => if x.v = 0 then trimE l else x :: l
theorem trimS_map (l : List E) : trimS (l.map toI) = (trimE l).map toI := by
  induction l with
  | nil => rfl
  | cons x l ih =>
    rw [List.map_cons, trimS, trimE]
    by_cases h : x.v = 0
    · rw [if_pos (by unfold toI; omega), if_pos h, ih]
    · rw [if_neg (by unfold toI; omega), if_neg h]; rfl
theorem ev_trimE (x : E) (l : List E) : ev x (trimE l) = ev x l := by
  induction l with
  | nil => rfl
  | cons a l ih =>
    rw [trimE]
    split
    · rename_i h
      have : a = 0 := E.ext' h
      rw [ih, ev_cons, this, ze_mul, ze_add]
    · rfl
theorem trimE_head (l : List E) (h : 0 < (trimE l).length) : (trimE l).getD 0 0 ≠ 0 := by
  induction l with
  | nil => simp [trimE] at h
  | cons a l ih =>
    rw [trimE] at h ⊢
    split at h
    · rename_i h0; rw [if_pos h0]; exact ih h
    · rename_i h0; rw [if_neg h0]
      intro e
      exact h0 (congrArg E.v e)
theorem invR_E {a : E} (h : a ≠ 0) : ∃ b : E, (invR (toI a)).1 = toI b ∧ a * b = 1 := by
  obtain ⟨b, hb, h1, h2⟩ := invR_pos a.h (fun e => h (E.ext' e))
  exact ⟨⟨b, hb⟩, by unfold toI; rw [h2], E.ext' h1⟩

/-- the remainder in the field's terms -/
theorem remS_E (p q : List E) (h0 : 0 < (trimE q).length) :
    ∃ inv : E, (trimE q).getD 0 0 * inv = 1 ∧ remS (p.map toI) (q.map toI) =
      ((List.replicate ((trimE q).length - 1 - (p.length - (p.length - ((trimE q).length - 1)))) 0 ++ (outQE (trimE q) inv p (p.length - ((trimE q).length - 1))).drop (p.length - ((trimE q).length - 1))).map toI, 0) := by
  obtain ⟨inv, h1, h2⟩ := invR_E (trimE_head q h0)
  refine ⟨inv, h2, ?_⟩
  have hm : trimS (q.map toI) ≠ [] := by rw [trimS_map]; intro e; simp at e; rw [e] at h0; simp at h0
  have hb : ∀ l : List E, InB (l.map toI) := fun l x hx => by obtain ⟨e, _, rfl⟩ := List.mem_map.1 hx; exact toI_range e
  unfold remS
  rw [if_neg hm, trimS_map]
  have hz := rd_map (trimE q) 0
  simp only [Int.ofNat_zero] at hz
  rw [show rd ((trimE q).map toI) 0 = toI ((trimE q).getD 0 0) from hz, h1]
  rw [rem_same (hb _) (hb _) (toI_range _) (by rw [List.length_map]; exact h0)]
  simp only [List.length_map, outQ_map, List.map_append, List.map_replicate, List.map_drop]
  rfl
theorem ev_remS {p q : List Int} (hp : InB p) (hq : InB q) {x : Int} (hx : 0 ≤ x ∧ x ≤ 255) (h : (remS p q).2 = 0) (h0 : foldE x q 0 = 0) : foldE x (remS p q).1 0 = foldE x p 0 := by
  obtain ⟨x, rfl⟩ := lift1 hx
  obtain ⟨p, rfl⟩ := lift hp
  obtain ⟨q, rfl⟩ := lift hq
  by_cases ht : (trimE q).length = 0
  · have : trimS (q.map toI) = [] := by rw [trimS_map, List.length_eq_zero_iff.1 ht]; rfl
    unfold remS at h
    rw [if_pos this] at h
    cases h
  · obtain ⟨inv, hi, he⟩ := remS_E p q (by omega)
    rw [he]
    rw [foldE_ev] at h0
    have h1 : ev x (trimE q) = 0 := by rw [ev_trimE]; exact toI_eq_zero.1 h0
    rw [foldE_ev, foldE_ev, ev_append, ev_zeros, ze_mul, ze_add]
    congr 1
    by_cases hl : (trimE q).length - 1 ≤ p.length
    · rw [ev_drop x _ _ (fun m hm => outQE_zero _ inv p hi _ (by omega) (by omega) m hm) (by rw [outQE_length]; omega), ev_outQE x _ inv p h1 _ (by omega) (by omega)]
    · rw [show p.length - ((trimE q).length - 1) = 0 by omega]; rfl
theorem remS_err {p q : List Int} (h : (remS p q).2 ≠ 0) : (remS p q).2 = 1 ∧ (remS p q).1 = [] := by
  unfold remS at *
  split
  · exact ⟨rfl, rfl⟩
  · rename_i h1; rw [if_neg h1] at h; exact absurd rfl h
theorem remS_two (p q : List Int) : (remS p q).2 = 0 ∨ ((remS p q).2 = 1 ∧ (remS p q).1 = []) := by
  by_cases h : (remS p q).2 = 0
  · exact .inl h
  · exact .inr (remS_err h)

/-- the generator polynomial's roots -/
theorem genS_inB (n : Nat) : InB (genS n) := by
  cases n with
  | zero => intro x hx; simp [genS] at hx; omega
  | succ n => exact prodS_inB _ _
theorem genS_root (n : Nat) (x : Int) (hx : 0 ≤ x ∧ x ≤ 255) : foldE x (genS n) 0 = 0 ↔ ∃ i, i < n ∧ x = (pwN i : Nat) := by
  induction n with
  | zero =>
    obtain ⟨x, rfl⟩ := lift1 hx
    constructor
    · intro h
      have : foldE (toI x) (([1] : List E).map toI) 0 = 0 := h
      rw [foldE_ev, ev_one] at this
      cases this
    · rintro ⟨i, hi, _⟩; omega
  | succ n ih =>
    rw [genS, ev_prodS (genS_inB n) (inB_two n) hx]
    have e2 : foldE x [1, expS n] 0 = Go.bits .xor .u8 x (pwN n : Nat) := by
      obtain ⟨x, rfl⟩ := lift1 hx
      have h3 := foldE_ev x [1, ⟨pwN n, pwN_lt n⟩]
      rw [ev_cons, ev_one, on_mul, List.length_singleton, show pow x 1 = x from on_mul x, ← toI_xor] at h3
      rw [expS_nat]; exact h3
    rw [e2]
    constructor
    · intro h
      obtain ⟨y, rfl⟩ := lift1 hx
      obtain ⟨g, hg⟩ := lift1 (foldE_range (toI y) (toI_range y) (genS n) 0 (by omega))
      have e3 : Go.bits .xor .u8 (toI y) ((pwN n : Nat) : Int) = toI (y + ⟨pwN n, pwN_lt n⟩) := toI_xor y ⟨pwN n, pwN_lt n⟩
      rw [hg, e3, toI_mul] at h
      rcases mul_eq_ze (toI_eq_zero.1 h) with h4 | h4
      · obtain ⟨i, hi, he⟩ := ih.1 (by rw [hg, h4]; rfl)
        exact ⟨i, by omega, he⟩
      · refine ⟨n, by omega, ?_⟩
        have := add_left_cancel' h4
        rw [this]; rfl
    · rintro ⟨i, hi, he⟩
      by_cases h5 : i = n
      · subst h5
        have e6 : Go.bits .xor .u8 x ((pwN i : Nat) : Int) = 0 := by
          rw [he, xor_nat _ _ (pwN_lt i) (pwN_lt i), Nat.xor_self]; rfl
        rw [e6]
        obtain ⟨g, hg⟩ := lift1 (foldE_range x hx (genS i) 0 (by omega))
        rw [hg, ← toI_zero, toI_mul, mul_ze]
      · rw [ih.2 ⟨i, by omega, he⟩]
        exact mulS_zero_left (bits_u8_range _ _ _)
end Go.Proofs.Ytndofhcacmghkaa
