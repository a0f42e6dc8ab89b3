import Derived.Test.YtndofhcacmghkaaM
/-! Polynomials over the field with 256 elements, the highest power first. -/
namespace Go.Proofs.Ytndofhcacmghkaa.GF

structure E where
  v : Nat
  h : v < 256

theorem E.ext' {a b : E} (h : a.v = b.v) : a = b := by cases a; cases b; simp at h; subst h; rfl
instance : Add E := ⟨fun a b => ⟨a.v ^^^ b.v, xor_lt a.h b.h⟩⟩
instance : Mul E := ⟨fun a b => ⟨gm a.v b.v, gm_lt a.h⟩⟩
instance : OfNat E 0 := ⟨⟨0, by decide⟩⟩
instance : OfNat E 1 := ⟨⟨1, by decide⟩⟩
theorem v_add (a b : E) : (a + b).v = a.v ^^^ b.v := rfl
theorem v_mul (a b : E) : (a * b).v = gm a.v b.v := rfl
theorem v_zero : (0 : E).v = 0 := rfl
theorem v_one : (1 : E).v = 1 := rfl
theorem add_as (a b c : E) : a + b + c = a + (b + c) := E.ext' (Nat.xor_assoc _ _ _)
theorem add_co (a b : E) : a + b = b + a := E.ext' (Nat.xor_comm _ _)
theorem add_ze (a : E) : a + 0 = a := E.ext' (Nat.xor_zero _)
theorem ze_add (a : E) : 0 + a = a := E.ext' (Nat.zero_xor _)
theorem add_se (a : E) : a + a = 0 := E.ext' (Nat.xor_self _)
theorem mul_as (a b c : E) : a * b * c = a * (b * c) := E.ext' (gm_assoc a.h b.h c.h).symm
theorem mul_co (a b : E) : a * b = b * a := E.ext' (gm_comm a.h b.h)
theorem mul_on (a : E) : a * 1 = a := E.ext' (gm_one a.h)
theorem on_mul (a : E) : 1 * a = a := E.ext' (one_gm a.h)
theorem mul_ze (a : E) : a * 0 = 0 := E.ext' (gm_zero _)
theorem ze_mul (a : E) : 0 * a = 0 := E.ext' (zero_gm a.h)
theorem mul_ad (a b c : E) : a * (b + c) = a * b + a * c := E.ext' (gm_xor_right _ _ _)
theorem ad_mul (a b c : E) : (a + b) * c = a * c + b * c := E.ext' (gm_xor_left _ a.h b.h)
theorem mul_eq_ze {a b : E} (h : a * b = 0) : a = 0 ∨ b = 0 := by
  by_cases ha : a.v = 0
  · exact .inl (E.ext' ha)
  · by_cases hb : b.v = 0
    · exact .inr (E.ext' hb)
    · exact absurd (congrArg E.v h) (gm_ne_zero a.h b.h ha hb)
instance : Std.Associative (α := E) (· + ·) := ⟨add_as⟩
instance : Std.Commutative (α := E) (· + ·) := ⟨add_co⟩
instance : Std.Associative (α := E) (· * ·) := ⟨mul_as⟩
instance : Std.Commutative (α := E) (· * ·) := ⟨mul_co⟩
theorem add_left_cancel' {a b : E} (h : a + b = 0) : a = b := by
  have : a + b + b = 0 + b := by rw [h]
  rwa [add_as, add_se, add_ze, ze_add] at this

def pow (x : E) : Nat → E
  | 0 => 1
  | n + 1 => pow x n * x
theorem pow_add (x : E) (m n : Nat) : pow x (m + n) = pow x m * pow x n := by
  induction n with
  | zero => rw [Nat.add_zero, pow, mul_on]
  | succ n ih => rw [← Nat.add_assoc, pow, pow, ih, mul_as]

/-- the value of a polynomial -/
def ev (x : E) (l : List E) : E := l.foldl (fun s c => s * x + c) 0
theorem ev_from (x : E) (l : List E) (s : E) : l.foldl (fun s c => s * x + c) s = s * pow x l.length + ev x l := by
  induction l generalizing s with
  | nil => simp only [List.foldl_nil, List.length_nil, pow, mul_on, ev, add_ze]
  | cons c l ih =>
    have e2 : ev x (c :: l) = (0 * x + c) * pow x l.length + ev x l := ih _
    rw [List.foldl_cons, ih, e2, ze_mul, ze_add, List.length_cons, Nat.add_comm l.length 1, pow_add, show pow x 1 = x from on_mul x, ad_mul, mul_as, add_as]
theorem ev_append (x : E) (l m : List E) : ev x (l ++ m) = ev x l * pow x m.length + ev x m := by
  rw [ev, List.foldl_append, ev_from]; rfl
theorem ev_nil (x : E) : ev x [] = 0 := rfl
theorem ev_one (x c : E) : ev x [c] = c := by show 0 * x + c = c; rw [ze_mul, ze_add]
theorem ev_cons (x c : E) (l : List E) : ev x (c :: l) = c * pow x l.length + ev x l := by
  have := ev_append x [c] l
  rwa [ev_one] at this
theorem ev_zeros (x : E) (n : Nat) : ev x (List.replicate n 0) = 0 := by
  induction n with
  | zero => rfl
  | succ n ih => rw [List.replicate_succ, ev_cons, ih, ze_mul, add_ze]

/-- something is added to one coefficient -/
theorem ev_set (x : E) (r : List E) (i : Nat) (h : i < r.length) (v : E) : ev x (r.set i (r.getD i 0 + v)) = ev x r + v * pow x (r.length - 1 - i) := by
  have e : r = r.take i ++ (r.getD i 0 :: r.drop (i + 1)) := by
    rw [List.getD_eq_getElem?_getD, List.getElem?_eq_getElem h]
    simp
  have hl : (r.take i).length = i := by rw [List.length_take]; omega
  have hd : (r.drop (i + 1)).length = r.length - 1 - i := by rw [List.length_drop]; omega
  have e2 : r.set i (r.getD i 0 + v) = r.take i ++ ((r.getD i 0 + v) :: r.drop (i + 1)) := by
    rw [List.set_eq_take_append_cons_drop, if_pos h]
  have e3 : ev x r = ev x (r.take i) * pow x (r.drop (i + 1)).length.succ + (r.getD i 0 * pow x (r.drop (i + 1)).length + ev x (r.drop (i + 1))) := by
    conv => lhs; rw [e]
    rw [ev_append, ev_cons]; rfl
  rw [e2, ev_append, ev_cons, ad_mul, List.length_cons, e3, hd]
  simp only [Nat.succ_eq_add_one]
  ac_rfl

/-- f times q added from place i on: k coefficients of it -/
def inE (q : List E) (f : E) (i : Nat) : Nat → List E → List E
  | 0, r => r
  | k + 1, r => (inE q f i k r).set (i + k) ((inE q f i k r).getD (i + k) 0 + f * q.getD k 0)
theorem inE_length (q : List E) (f : E) (i k : Nat) (r : List E) : (inE q f i k r).length = r.length := by
  induction k with
  | zero => rfl
  | succ k ih => rw [inE, List.length_set, ih]
theorem ev_inE (x : E) (q : List E) (f : E) (i k : Nat) (r : List E) (hk : k ≤ q.length) (hr : i + k ≤ r.length) :
    ev x (inE q f i k r) = ev x r + f * (ev x (q.take k) * pow x (r.length - i - k)) := by
  induction k with
  | zero => rw [List.take_zero, ev_nil, ze_mul, mul_ze, add_ze]; rfl
  | succ k ih =>
    rw [inE, ev_set x _ _ (by rw [inE_length]; omega), ih (by omega) (by omega), inE_length]
    have h1 : q.take (k + 1) = q.take k ++ [q.getD k 0] := by
      rw [List.getD_eq_getElem?_getD, List.getElem?_eq_getElem (show k < q.length by omega), List.take_succ_eq_append_getElem (show k < q.length by omega)]
      rfl
    rw [h1, ev_append, ev_one, ad_mul, mul_ad, List.length_singleton, show pow x 1 = x from on_mul x]
    have h2 : r.length - i - k = (r.length - i - (k + 1)) + 1 := by omega
    have h3 : r.length - 1 - (i + k) = r.length - i - (k + 1) := by omega
    rw [h2, h3, pow_add, show pow x 1 = x from on_mul x]
    ac_rfl
theorem ev_inE_all (x : E) (q : List E) (f : E) (i : Nat) (r : List E) (hr : i + q.length ≤ r.length) :
    ev x (inE q f i q.length r) = ev x r + f * (ev x q * pow x (r.length - i - q.length)) := by
  rw [ev_inE x q f i q.length r (Nat.le_refl _) hr, List.take_length]

/-- the product of the first i coefficients of p with q -/
def outE (p q : List E) : Nat → List E
  | 0 => List.replicate (p.length + q.length - 1) 0
  | i + 1 => inE q (p.getD i 0) i q.length (outE p q i)
theorem outE_length (p q : List E) (i : Nat) : (outE p q i).length = p.length + q.length - 1 := by
  induction i with
  | zero => simp [outE]
  | succ i ih => rw [outE, inE_length, ih]
theorem ev_outE (x : E) (p q : List E) (i : Nat) (hi : i ≤ p.length) (hq : 0 < q.length) :
    ev x (outE p q i) = ev x q * (ev x (p.take i) * pow x (p.length - i)) := by
  induction i with
  | zero => rw [outE, ev_zeros, List.take_zero, ev_nil, ze_mul, mul_ze]
  | succ i ih =>
    rw [outE, ev_inE_all x q _ i _ (by rw [outE_length]; omega), ih (by omega), outE_length]
    have h1 : p.take (i + 1) = p.take i ++ [p.getD i 0] := by
      rw [List.getD_eq_getElem?_getD, List.getElem?_eq_getElem (show i < p.length by omega), List.take_succ_eq_append_getElem (show i < p.length by omega)]
      rfl
    rw [h1, ev_append, ev_one, ad_mul, mul_ad, List.length_singleton, show pow x 1 = x from on_mul x]
    have h2 : p.length - i = (p.length - (i + 1)) + 1 := by omega
    have h3 : p.length + q.length - 1 - i - q.length = p.length - (i + 1) := by omega
    rw [h2, h3, pow_add, show pow x 1 = x from on_mul x]
    ac_rfl
theorem ev_product (x : E) (p q : List E) (hq : 0 < q.length) : ev x (outE p q p.length) = ev x p * ev x q := by
  rw [ev_outE x p q p.length (Nat.le_refl _) hq, List.take_length, Nat.sub_self]
  show ev x q * (ev x p * 1) = _
  rw [mul_on, mul_co]
end Go.Proofs.Ytndofhcacmghkaa.GF
