import Derived.Test.YtndofhcacmghkaaHa
import Derived.Test.YtndofhcacmghkaaWWords
namespace Go.Proofs.Ytndofhcacmghkaa
set_option linter.unusedVariables false
set_option linter.unusedSimpArgs false
open Go.RowKit
open Go.Proofs.YtndofhcacmghkaaW.PrintWords (rd Kd.C Kd.int Kd.at_int Kd.C_alloc Kd.C_max)

/-- the product, as the code has it: n rounds at most -/
def mulL : Nat → Int → Int → Int → Int
  | 0, _, _, out => out
  | n + 1, a, b, out => if b = 0 then out else mulL n (dbl a) (b / 2) (if Go.bits .and .u8 b 1 = 1 then Go.bits .xor .u8 out a else out)
def mulS (a b : Int) : Int := mulL 8 a b 0
theorem mulL_zero (n : Nat) (a out : Int) : mulL n a 0 out = out := by cases n <;> simp [mulL]

theorem mul_any (a b : Int) (hb0 : 0 ≤ b) (hb : b ≤ 255) (w : World) :
    Calls Try.prog 16 #[.int .u8 a, .int .u8 b] w fun e w' => e = .returned (.int .u8 (mulS a b)) ∧ w = w' := by
  go_enter Try.func16, Try.ntmps16
  go_wp2
  go_loop [0, 1, 5] (fun x y o => ∃ (n : Nat) (a' b' o' : Int), x = .int .u8 a' ∧ y = .int .u8 b' ∧ o = .int .u8 o' ∧ 0 ≤ b' ∧ b' < 2 ^ n ∧ n ≤ 8 ∧ mulL n a' b' o' = mulS a b) (fun _ y _ => (intOf y).toNat)
  case atStart => exact ⟨8, a, b, 0, rfl, rfl, rfl, hb0, by omega, by omega, rfl⟩
  case round =>
    obtain ⟨n, a', b', o', rfl, rfl, rfl, h0, h1, hn, hm⟩ := hrel
    have HM := Lib.hid hm
    have H1 := Lib.hid h1
    clear hm h1
    have hlt : b' ≤ 255 := by
      have := H1.out
      have h2 : (2:Int) ^ n ≤ 2 ^ 8 := by exact_mod_cast Nat.pow_le_pow_right (by omega) hn
      omega
    by_cases hz : b' = 0
    · have hz' : (b' != 0) = false := by simpa using hz
      have HZ := Lib.hid hz
      clear hz
      go_wp2
      go_ret
      refine ⟨?_, rfl⟩
      rw [← HM.out, HZ.out, mulL_zero]
      rfl
    · have hz' : (b' != 0) = true := by simpa using hz
      have HZ := Lib.hid hz
      obtain ⟨m, HN⟩ : ∃ m, Hid (n = m + 1) := by
        cases n with
        | zero => have := H1.out; simp at this; omega
        | succ m => exact ⟨m, Lib.hid rfl⟩
      by_cases ho : Go.bits .and .u8 b' 1 = 1
      · have ho' : (Go.bits .and .u8 b' 1 == 1) = true := by simpa using ho
        have HO := Lib.hid ho
        clear ho hz
        go_wp2_with (go_at_call 31; refine (double_any _ _).mono ?_; rintro e w' ⟨rfl, rfl⟩)
        go_round
        case rel =>
          refine ⟨m, _, _, _, rfl, rfl, rfl, by omega, ?_, ?_, ?_⟩
          · have := H1.out; rw [HN.out, Int.pow_succ] at this; omega
          · have := HN.out; omega
          · rw [← HM.out, HN.out, mulL, if_neg HZ.out, if_pos HO.out]; rfl
        case measure => have := HZ.out; simp [intOf]; omega
      · have ho' : (Go.bits .and .u8 b' 1 == 1) = false := by simpa using ho
        have HO := Lib.hid ho
        clear ho hz
        go_wp2_with (go_at_call 31; refine (double_any _ _).mono ?_; rintro e w' ⟨rfl, rfl⟩)
        go_round
        case rel =>
          refine ⟨m, _, _, _, rfl, rfl, rfl, by omega, ?_, ?_, ?_⟩
          · have := H1.out; rw [HN.out, Int.pow_succ] at this; omega
          · have := HN.out; omega
          · rw [← HM.out, HN.out, mulL, if_neg HZ.out, if_neg HO.out]; rfl
        case measure => have := HZ.out; simp [intOf]; omega

theorem eval1_any (s c x : Int) (hx0 : 0 ≤ x) (hx : x ≤ 255) (B : Nat) (w : World) (hc : w.cell? ⟨B, 0, none⟩ = some (.int .u8 x)) :
    Calls Try.prog 33 #[.int .u8 s, .int .u8 c, .pointer (some ⟨B, 0, none⟩)] w fun e w' => e = .returned (.int .u8 (Go.bits .xor .u8 (mulS s x) c)) ∧ w = w' := by
  go_enter Try.func33, Try.ntmps33
  go_wp2_with (go_at_call 16; refine (mul_any _ _ (by omega) (by omega) _).mono ?_; rintro e w' ⟨rfl, rfl⟩)
  go_ret
  exact ⟨rfl, rfl⟩

def foldE (x : Int) (l : List Int) (s : Int) : Int := l.foldl (fun s c => Go.bits .xor .u8 (mulS s x) c) s

theorem foldE_at (x : Int) (l : List Int) (s : Int) (k : Nat) (h : k < l.length) :
    foldE x (l.take (k + 1)) s = Go.bits .xor .u8 (mulS (foldE x (l.take k) s) x) (rd l k) := by
  unfold foldE
  rw [List.take_succ_eq_append_getElem h, List.foldl_append]
  simp [rd, h]

theorem fold_any (A0 : Option Addr) (c0 : Nat) (l : List Int) (s x : Int) (hx0 : 0 ≤ x) (hx : x ≤ 255) (B : Nat) (w : World) (hc : w.cell? ⟨B, 0, none⟩ = some (.int .u8 x))
    (hr : Kd.C (Kd.int .u8) w A0 l.length l) (hm : l.length ≤ 9223372036854775807) :
    Calls Try.prog 32 #[.slice A0 l.length c0, .int .u8 s, .func (.func 33) #[] #[.pointer (some ⟨B, 0, none⟩)]] w fun e w' => e = .returned (.int .u8 (foldE x l s)) ∧ w = w' := by
  have HC := Lib.hid hc
  clear hc
  go_enter Try.func32, Try.ntmps32
  go_wp2
  go_loop [1, 8, 11] (fun a _ i => ∃ k : Nat, k ≤ l.length ∧ i = .int .i64 k ∧ a = .int .u8 (foldE x (l.take k) s)) (fun _ _ i => l.length - (intOf i).toNat)
  case atStart => exact ⟨0, by omega, rfl, rfl⟩
  case round =>
    obtain ⟨k, hk, rfl, rfl⟩ := hrel
    by_cases hlt : k < l.length
    · obtain ⟨ad, rfl, hcell⟩ := Kd.at_int hr k (by omega) (by omega)
      simp only [Int.toNat_natCast] at hcell
      have HS := Lib.hid (foldE_at x l s k hlt)
      go_wp2_with (go_at_call 33; refine (eval1_any _ _ _ hx0 hx _ _ HC.out).mono ?_; rintro e w' ⟨rfl, rfl⟩)
      go_round
      case rel => exact ⟨k + 1, by omega, by go_num, by rw [HS.out]⟩
      case measure => simp [intOf]; omega
    · obtain rfl : k = l.length := by omega
      go_wp2
      go_ret
      exact ⟨rfl, rfl⟩

theorem eval_any (A0 : Option Addr) (c0 : Nat) (l : List Int) (x : Int) (hx0 : 0 ≤ x) (hx : x ≤ 255) (w : World) (hr : Kd.C (Kd.int .u8) w A0 l.length l) :
    Calls Try.prog 21 #[.slice A0 l.length c0, .int .u8 x] w fun e w' => e = .returned (.int .u8 (foldE x l 0)) ∧ Below w.heap.size w w' := by
  have hm := Kd.C_max hr
  go_enter Try.func21, Try.ntmps21
  go_wp2_with (go_at_call 32; refine (fold_any _ _ l _ x hx0 hx _ _ (by simp) (Kd.C_alloc hr _) hm).mono ?_; rintro e w' ⟨rfl, rfl⟩)
  go_ret
  exact ⟨rfl, (Below.refl _ _).alloc (Nat.le_refl _) _⟩
end Go.Proofs.Ytndofhcacmghkaa
