/-! The field with 256 elements, in plain numbers. -/
namespace Go.Proofs.Ytndofhcacmghkaa.GF

def xd (a : Nat) : Nat := if 128 ≤ a then (a * 2 % 256) ^^^ 29 else a * 2 % 256
def lin : Nat → Nat → Nat → Nat
  | 0, _, _ => 0
  | n + 1, a, b => (if b % 2 = 1 then a else 0) ^^^ lin n (xd a) (b / 2)
/-- the product -/
def gm (a b : Nat) : Nat := lin 8 a b

theorem xor_lc (a b c : Nat) : a ^^^ (b ^^^ c) = b ^^^ (a ^^^ c) := by
  rw [← Nat.xor_assoc, ← Nat.xor_assoc, Nat.xor_comm a b]
theorem xor_mod2 (b c : Nat) : (b ^^^ c) % 2 = (b + c) % 2 := by
  have h := Nat.xor_mod_two_pow (a := b) (b := c) (n := 1)
  simp only [Nat.pow_one] at h
  rw [h]
  rcases Nat.mod_two_eq_zero_or_one b with hb | hb <;> rcases Nat.mod_two_eq_zero_or_one c with hc | hc <;> rw [hb, hc] <;> (simp; omega)

theorem xd_lt {a : Nat} (h : a < 256) : xd a < 256 := by
  have : ∀ a, a < 256 → xd a < 256 := by decide +kernel
  exact this a h
theorem xor_lt {a b : Nat} (ha : a < 256) (hb : b < 256) : a ^^^ b < 256 := Nat.xor_lt_two_pow (n := 8) ha hb
theorem xd_xor {a b : Nat} (ha : a < 256) (hb : b < 256) : xd (a ^^^ b) = xd a ^^^ xd b := by
  have : ∀ a, a < 256 → ∀ b, b < 256 → xd (a ^^^ b) = xd a ^^^ xd b := by decide +kernel
  exact this a ha b hb
theorem lin_lt (n : Nat) : ∀ {a b : Nat}, a < 256 → lin n a b < 256 := by
  induction n with
  | zero => intros; simp [lin]
  | succ n ih =>
    intro a b ha
    rw [lin]
    refine xor_lt ?_ (ih (xd_lt ha))
    split <;> omega
theorem gm_lt {a b : Nat} (ha : a < 256) : gm a b < 256 := lin_lt 8 ha
theorem lin_zero (n a : Nat) : lin n a 0 = 0 := by
  induction n generalizing a with
  | zero => rfl
  | succ n ih => simp [lin, ih]
theorem lin_xor_right (n : Nat) : ∀ (a b c : Nat), lin n a (b ^^^ c) = lin n a b ^^^ lin n a c := by
  induction n with
  | zero => intros; simp [lin]
  | succ n ih =>
    intro a b c
    rw [lin, lin, lin, Nat.xor_div_two, ih]
    have h : (b ^^^ c) % 2 = (b + c) % 2 := xor_mod2 b c
    rcases Nat.mod_two_eq_zero_or_one b with hb | hb <;> rcases Nat.mod_two_eq_zero_or_one c with hc | hc
    · rw [if_neg (by omega), if_neg (by omega), if_neg (by omega)]; simp
    · rw [if_pos (by omega), if_neg (by omega), if_pos (by omega)]; simp only [Nat.zero_xor]; rw [xor_lc]
    · rw [if_pos (by omega), if_pos (by omega), if_neg (by omega)]; simp only [Nat.zero_xor, Nat.xor_assoc]
    · rw [if_neg (by omega), if_pos (by omega), if_pos (by omega)]
      simp only [Nat.zero_xor]; rw [Nat.xor_assoc, xor_lc (lin n (xd a) (b / 2)), ← Nat.xor_assoc a a, Nat.xor_self, Nat.zero_xor]
theorem lin_xor_left (n : Nat) : ∀ {a b : Nat} (c : Nat), a < 256 → b < 256 → lin n (a ^^^ b) c = lin n a c ^^^ lin n b c := by
  induction n with
  | zero => intros; simp [lin]
  | succ n ih =>
    intro a b c ha hb
    rw [lin, lin, lin, xd_xor ha hb, ih _ (xd_lt ha) (xd_lt hb)]
    split
    · rw [Nat.xor_assoc, Nat.xor_assoc, xor_lc b]
    · simp
theorem gm_xor_right (a b c : Nat) : gm a (b ^^^ c) = gm a b ^^^ gm a c := lin_xor_right 8 a b c
theorem gm_xor_left {a b : Nat} (c : Nat) (ha : a < 256) (hb : b < 256) : gm (a ^^^ b) c = gm a c ^^^ gm b c := lin_xor_left 8 c ha hb

/-- two functions that go with xor and agree at the powers of two agree below 2^n -/
theorem ext_lin {f g : Nat → Nat} (n : Nat) (hf : ∀ a b, a < 2 ^ n → b < 2 ^ n → f (a ^^^ b) = f a ^^^ f b) (hg : ∀ a b, a < 2 ^ n → b < 2 ^ n → g (a ^^^ b) = g a ^^^ g b)
    (hp : ∀ i, i < n → f (2 ^ i) = g (2 ^ i)) : ∀ m, m ≤ n → ∀ a, a < 2 ^ m → f a = g a := by
  have f0 : f 0 = 0 := by have := hf 0 0 (Nat.two_pow_pos n) (Nat.two_pow_pos n); simpa using this
  have g0 : g 0 = 0 := by have := hg 0 0 (Nat.two_pow_pos n) (Nat.two_pow_pos n); simpa using this
  intro m
  induction m with
  | zero => intro _ a ha; have : a = 0 := by simpa using ha
            rw [this, f0, g0]
  | succ m ih =>
    intro hm a ha
    by_cases hlt : a < 2 ^ m
    · exact ih (by omega) a hlt
    · have hle : 2 ^ (m + 1) ≤ 2 ^ n := Nat.pow_le_pow_right (by omega) hm
      have hlt2 : 2 ^ m < 2 ^ (m + 1) := by rw [Nat.pow_succ]; have := Nat.two_pow_pos m; omega
      have hx : a = 2 ^ m ^^^ (a - 2 ^ m) := by
        have h1 : a - 2 ^ m < 2 ^ m := by rw [Nat.pow_succ] at ha; omega
        have h2 := Nat.two_pow_add_eq_or_of_lt h1 1
        have h3 : (2 ^ m) ^^^ (a - 2 ^ m) = 2 ^ m + (a - 2 ^ m) := by
          apply Nat.eq_of_testBit_eq
          intro i
          rw [Nat.testBit_xor]
          rcases Nat.lt_trichotomy i m with hi | hi | hi
          · rw [Nat.testBit_two_pow_of_ne (by omega), Nat.testBit_two_pow_add_gt hi]; simp
          · subst hi
            rw [Nat.testBit_two_pow_self, Nat.testBit_two_pow_add_eq]
            rw [Nat.testBit_lt_two_pow h1]; rfl
          · have e1 : (2 ^ m).testBit i = false := Nat.testBit_two_pow_of_ne (by omega)
            have e2 : (a - 2 ^ m).testBit i = false := Nat.testBit_lt_two_pow (Nat.lt_of_lt_of_le h1 (Nat.pow_le_pow_right (by omega) (by omega)))
            have e3 : (2 ^ m + (a - 2 ^ m)).testBit i = false := Nat.testBit_lt_two_pow (Nat.lt_of_lt_of_le (show 2 ^ m + (a - 2 ^ m) < 2 ^ (m + 1) by omega) (Nat.pow_le_pow_right (by omega) (by omega)))
            rw [e1, e2, e3]; rfl
        omega
      have h1 : a - 2 ^ m < 2 ^ m := by rw [Nat.pow_succ] at ha; omega
      rw [hx, hf _ _ (by omega) (by omega), hg _ _ (by omega) (by omega), hp m (by omega), ih (by omega) _ h1]
theorem ext8 {f g : Nat → Nat} (hf : ∀ a b, a < 256 → b < 256 → f (a ^^^ b) = f a ^^^ f b) (hg : ∀ a b, a < 256 → b < 256 → g (a ^^^ b) = g a ^^^ g b)
    (hp : ∀ i, i < 8 → f (2 ^ i) = g (2 ^ i)) {a : Nat} (ha : a < 256) : f a = g a := ext_lin 8 hf hg hp 8 (Nat.le_refl _) a ha

theorem gm_comm {a b : Nat} (ha : a < 256) (hb : b < 256) : gm a b = gm b a := by
  have base : ∀ i, i < 8 → ∀ j, j < 8 → gm (2 ^ i) (2 ^ j) = gm (2 ^ j) (2 ^ i) := by decide +kernel
  have p2 : ∀ i, i < 8 → 2 ^ i < 256 := by decide
  refine ext8 (f := fun a => gm a b) (g := fun a => gm b a) (fun x y hx hy => gm_xor_left b hx hy) (fun x y _ _ => gm_xor_right b x y) (fun i hi => ?_) ha
  exact ext8 (f := fun b => gm (2 ^ i) b) (g := fun b => gm b (2 ^ i)) (fun x y _ _ => gm_xor_right _ x y) (fun x y hx hy => gm_xor_left _ hx hy) (fun j hj => base i hi j hj) hb
theorem gm_assoc {a b c : Nat} (ha : a < 256) (hb : b < 256) (hc : c < 256) : gm a (gm b c) = gm (gm a b) c := by
  have base : ∀ i, i < 8 → ∀ j, j < 8 → ∀ k, k < 8 → gm (2 ^ i) (gm (2 ^ j) (2 ^ k)) = gm (gm (2 ^ i) (2 ^ j)) (2 ^ k) := by decide +kernel
  have p2 : ∀ i, i < 8 → 2 ^ i < 256 := by decide
  refine ext8 (f := fun a => gm a (gm b c)) (g := fun a => gm (gm a b) c) (fun x y hx hy => gm_xor_left _ hx hy) (fun x y hx hy => by simp only [gm_xor_left b hx hy, gm_xor_left c (gm_lt hx) (gm_lt hy)]) (fun i hi => ?_) ha
  refine ext8 (f := fun b => gm (2 ^ i) (gm b c)) (g := fun b => gm (gm (2 ^ i) b) c) (fun x y hx hy => by simp only [gm_xor_left c hx hy, gm_xor_right]) (fun x y hx hy => by simp only [gm_xor_right, gm_xor_left c (gm_lt (p2 i hi)) (gm_lt (p2 i hi))]) (fun j hj => ?_) hb
  exact ext8 (f := fun c => gm (2 ^ i) (gm (2 ^ j) c)) (g := fun c => gm (gm (2 ^ i) (2 ^ j)) c) (fun x y hx hy => by simp only [gm_xor_right]) (fun x y _ _ => gm_xor_right _ x y) (fun k hk => base i hi j hj k hk) hc
theorem gm_one {a : Nat} (ha : a < 256) : gm a 1 = a := by
  have : ∀ a, a < 256 → gm a 1 = a := by decide +kernel
  exact this a ha
theorem gm_zero (a : Nat) : gm a 0 = 0 := lin_zero 8 a
theorem zero_gm {a : Nat} (ha : a < 256) : gm 0 a = 0 := by rw [gm_comm (by omega) ha, gm_zero]
theorem one_gm {a : Nat} (ha : a < 256) : gm 1 a = a := by rw [gm_comm (by omega) ha, gm_one ha]
theorem xd_gm {a : Nat} (ha : a < 256) : gm a 2 = xd a := by
  have : ∀ a, a < 256 → gm a 2 = xd a := by decide +kernel
  exact this a ha

/-- the powers of 2 -/
def pwN : Nat → Nat
  | 0 => 1
  | k + 1 => xd (pwN k)
theorem pwN_lt (k : Nat) : pwN k < 256 := by
  induction k with
  | zero => decide
  | succ k ih => exact xd_lt ih
theorem pwN_add (i j : Nat) : pwN (i + j) = gm (pwN i) (pwN j) := by
  induction j with
  | zero => rw [Nat.add_zero, pwN, gm_one (pwN_lt i)]
  | succ j ih =>
    rw [← Nat.add_assoc, pwN, pwN, ih, ← xd_gm (gm_lt (pwN_lt i)), ← xd_gm (pwN_lt j), gm_assoc (pwN_lt i) (pwN_lt j) (by omega)]
theorem pwN_255 : pwN 255 = 1 := by decide +kernel
theorem pwN_period (k m : Nat) : pwN (k + 255 * m) = pwN k := by
  induction m with
  | zero => rfl
  | succ m ih =>
    rw [show k + 255 * (m + 1) = (k + 255 * m) + 255 by omega, pwN_add, pwN_255, gm_one (pwN_lt _), ih]
theorem pwN_mod (k : Nat) : pwN (k % 255) = pwN k := by
  have h := pwN_period (k % 255) (k / 255)
  rw [Nat.mod_add_div] at h
  exact h.symm
theorem pwN_pos (k : Nat) : pwN k ≠ 0 := by
  have : ∀ k, k < 255 → pwN k ≠ 0 := by decide +kernel
  rw [← pwN_mod]
  exact this _ (Nat.mod_lt _ (by omega))
/-- the logarithm: the least exponent, by search -/
def lgN (a : Nat) : Nat → Nat → Option Nat
  | 0, _ => none
  | n + 1, i => if pwN i = a then some i else lgN a n (i + 1)
theorem lgN_all : ∀ a, a < 256 → a ≠ 0 → ∃ k, k < 255 ∧ pwN k = a := by
  have h : ∀ a, a < 256 → a ≠ 0 → ((List.range 255).any fun k => pwN k == a) = true := by decide +kernel
  intro a ha h0
  obtain ⟨k, hk, he⟩ := List.any_eq_true.1 (h a ha h0)
  exact ⟨k, List.mem_range.1 hk, by simpa using he⟩
theorem pwN_inj {i j : Nat} (hi : i < 255) (hj : j < 255) (h : pwN i = pwN j) : i = j := by
  have : ∀ i, i < 255 → ∀ j, j < i → pwN i ≠ pwN j := by
    intro i hi j hj he
    have h1 : pwN (i - j) = 1 := by
      have e : pwN (j + (i - j)) = pwN j := by rw [show j + (i - j) = i by omega]; exact he
      rw [pwN_add] at e
      have e2 : gm (pwN (255 - j)) (gm (pwN j) (pwN (i - j))) = gm (pwN (255 - j)) (pwN j) := by rw [e]
      rw [gm_assoc (pwN_lt _) (pwN_lt _) (pwN_lt _), ← pwN_add, show 255 - j + j = 255 by omega, pwN_255, one_gm (pwN_lt _)] at e2
      exact e2
    have h2 : ∀ k, k < 255 → 0 < k → pwN k ≠ 1 := by decide +kernel
    exact h2 (i - j) (by omega) (by omega) h1
  rcases Nat.lt_trichotomy i j with hl | he | hl
  · exact absurd h.symm (this j hj i hl)
  · exact he
  · exact absurd h (this i hi j hl)
/-- no divisors of zero -/
theorem gm_ne_zero {a b : Nat} (ha : a < 256) (hb : b < 256) (h1 : a ≠ 0) (h2 : b ≠ 0) : gm a b ≠ 0 := by
  obtain ⟨i, _, rfl⟩ := lgN_all a ha h1
  obtain ⟨j, _, rfl⟩ := lgN_all b hb h2
  rw [← pwN_add]
  exact pwN_pos _
end Go.Proofs.Ytndofhcacmghkaa.GF
