import Derived.Test.YtndofhcacmghkaaHm
import Derived.Test.YtndofhcacmghkaaR
namespace Go.Proofs.Ytndofhcacmghkaa
set_option linter.unusedVariables false
set_option linter.unusedSimpArgs false
open Go.RowKit GF
open Go.Proofs.YtndofhcacmghkaaW.PrintWords

theorem div_plain (p q r : List Int) (hp : InB p) (hqb : InB q) (hrb : InB r) (hq : 0 < q.length) (h0 : rd q 0 ≠ 0) (hr : r.length ≤ q.length - 1) :
    ((prodS p q).length < r.length → prodS p q = [] ∧ remS (adS 0 r r.length (List.replicate r.length 0)) q = (List.replicate (q.length - 1 - r.length) 0 ++ r, 0)) ∧
    (r.length ≤ (prodS p q).length → remS (adS ((prodS p q).length - r.length) r r.length (prodS p q)) q = (List.replicate (q.length - 1 - r.length) 0 ++ r, 0)) ∧ (prodS p q).length ≤ p.length + q.length := by
  obtain ⟨p, rfl⟩ := lift hp
  obtain ⟨q, rfl⟩ := lift hqb
  obtain ⟨r, rfl⟩ := lift hrb
  have hz := rd_map q 0
  have hz0 : q.getD 0 0 ≠ 0 := by
    intro e
    rw [e] at hz
    exact h0 (by rw [show ((0 : Nat) : Int) = 0 from rfl] at hz; rw [hz]; rfl)
  simp only [List.length_map] at hq hr ⊢
  have mrep : ∀ n, List.replicate n (0 : Int) = (List.replicate n (0 : E)).map toI := fun n => by rw [List.map_replicate]; rfl
  by_cases hpn : p = []
  · subst hpn
    have e : prodS (List.map toI []) (q.map toI) = [] := prodS_nil _ _ (.inl rfl)
    have key := rem_divides [] q r hq hz0 hr (List.replicate r.length 0) (.inl ⟨rfl, rfl⟩)
    rw [List.length_replicate, Nat.sub_self, ← adS_map, ← mrep, List.map_append, ← mrep] at key
    rw [e]
    refine ⟨fun _ => ⟨rfl, key⟩, fun h => ?_, by simp⟩
    have hr0 : r = [] := List.length_eq_zero_iff.1 (by simpa using h)
    subst hr0
    exact key
  · have e := prodS_map p q hpn (List.length_pos_iff.1 hq)
    have hl := outE_length p q p.length
    have hpl := List.length_pos_iff.2 hpn
    have key := rem_divides p q r hq hz0 hr _ (.inr ⟨hpn, rfl⟩)
    rw [← adS_map, List.map_append, ← mrep] at key
    rw [e, List.length_map, hl]
    refine ⟨fun h => by omega, fun _ => ?_, by omega⟩
    rw [hl] at key
    exact key

theorem adS_inB {d : Nat} {r : List Int} (k : Nat) {s : List Int} (h : InB s) : InB (adS d r k s) := by
  induction k with
  | zero => exact h
  | succ k ih =>
    rw [adS]
    intro x hx
    rcases List.mem_or_eq_of_mem_set hx with hx | rfl
    · exact ih x hx
    · exact bits_u8_range _ _ _

theorem remainder_n (A0 : Option Addr) (c0 n : Nat) (p : List Int) (A1 : Option Addr) (c1 : Nat) (q : List Int) (w : World) (hn : p.length = n)
    (hr0 : IC .u8 w A0 p) (hr1 : IC .u8 w A1 q) (hc1 : q.length ≤ c1) (hq : InB q) (hl : n + q.length ≤ 140737488355328) {R : List Int × Int} (HR : remS p q = R) :
    Calls Try.prog 23 #[.slice A0 n c0, .slice A1 q.length c1] w fun e w' =>
      ∃ A c, e = .returned (.tuple #[.slice A R.1.length c, .int .i64 R.2]) ∧ IC .u8 w' A R.1 ∧ Below w.heap.size w w' := by
  subst hn
  subst HR
  refine (remainder_any A0 c0 p A1 c1 q w hr0 hr1 hc1 hq hl).mono ?_
  rintro e w' ⟨v, rfl, h, hb⟩
  obtain ⟨A, c, rfl, hc, hC⟩ := ir_reads h
  exact ⟨A, c, rfl, hC, hb⟩

theorem add_call (a b : Int) (w : World) : Calls Try.prog 15 #[.int .u8 a, .int .u8 b] w fun e w' => e = .returned (.int .u8 (Go.bits .xor .u8 a b)) ∧ w = w' := add_any a b w

set_option maxRecDepth 100000 in
set_option maxHeartbeats 4000000 in
theorem law_Gf256Divides (A0 : Option Addr) (c0 : Nat) (p : List Int) (A1 : Option Addr) (c1 : Nat) (q : List Int) (A2 : Option Addr) (c2 : Nat) (r : List Int) (w : World)
    (h0 : IC .u8 w A0 p) (hc0 : p.length ≤ c0) (y0 : p.length * 1 ≤ 140737488351232) (g0 : ∀ x ∈ p, (Lit.int .u8 x).wf = true)
    (h1 : IC .u8 w A1 q) (hc1 : q.length ≤ c1) (y1 : q.length * 1 ≤ 140737488351232) (g1 : ∀ x ∈ q, (Lit.int .u8 x).wf = true)
    (h2 : IC .u8 w A2 r) (hc2 : r.length ≤ c2) (y2 : r.length * 1 ≤ 140737488351232) (g2 : ∀ x ∈ r, (Lit.int .u8 x).wf = true) :
    Calls Try.prog 7 #[.slice A0 p.length c0, .slice A1 q.length c1, .slice A2 r.length c2] w fun e w' => e = .returned (.bool true) ∧ Below w.heap.size w w' := by
  have hp := Lib.hid (inB_wf g0)
  have hq := Lib.hid (inB_wf g1)
  have hr := Lib.hid (inB_wf g2)
  clear g0 g1 g2
  by_cases l1 : 40 < p.length
  · go_enter Try.func7, Try.ntmps7
    go_wp2_with fail
    refine (awake_any _).mono ?_
    rintro e w1 ⟨rfl, hB⟩
    go_wp2
    go_ret
    exact ⟨rfl, hB⟩
  have l1b : ¬ 40 < (p.length : Int) := by omega
  by_cases l2 : 40 < q.length
  · go_enter Try.func7, Try.ntmps7
    go_wp2_with fail
    refine (awake_any _).mono ?_
    rintro e w1 ⟨rfl, hB⟩
    go_wp2
    go_ret
    exact ⟨rfl, hB⟩
  have l2b : ¬ 40 < (q.length : Int) := by omega
  by_cases l3 : q.length = 0
  · have e3 : ((q.length : Int) == 0) = true := by simpa using l3
    go_enter Try.func7, Try.ntmps7
    go_wp2_with fail
    refine (awake_any _).mono ?_
    rintro e w1 ⟨rfl, hB⟩
    go_wp2
    go_ret
    exact ⟨rfl, hB⟩
  have e3 : ((q.length : Int) == 0) = false := by simp; exact fun h => l3 (by rw [h]; rfl)
  have hqpos : 0 < q.length := by omega
  clear l3
  obtain ⟨ad, rfl, hcell⟩ := ic_cell h1 0 hqpos
  simp only [Addr.add_zero', Int.ofNat_zero] at hcell
  by_cases l4 : rd q 0 = 0
  · have e4 : (rd q 0 == 0) = true := by simpa using l4
    clear l4
    go_enter Try.func7, Try.ntmps7
    go_wp2_with fail
    refine (awake_any _).mono ?_
    rintro e w1 ⟨rfl, hB⟩
    obtain ⟨ad', he', hcell'⟩ := ic_cell (ic_below h1 hB) 0 hqpos
    obtain rfl : ad = ad' := by injection he'
    clear he'
    simp only [Addr.add_zero', Int.ofNat_zero] at hcell'
    go_wp2
    go_ret
    exact ⟨rfl, hB⟩
  have e4 : (rd q 0 == 0) = false := by simpa using l4
  by_cases l5 : (q.length : Int) - 1 < r.length
  · clear l4
    go_enter Try.func7, Try.ntmps7
    go_wp2_with fail
    refine (awake_any _).mono ?_
    rintro e w1 ⟨rfl, hB⟩
    obtain ⟨ad', he', hcell'⟩ := ic_cell (ic_below h1 hB) 0 hqpos
    obtain rfl : ad = ad' := by injection he'
    clear he'
    simp only [Addr.add_zero', Int.ofNat_zero] at hcell'
    go_wp2
    go_ret
    exact ⟨rfl, hB⟩
  obtain ⟨D1, D2, D3⟩ := div_plain p q r hp.out hq.out hr.out hqpos l4 (by omega)
  have HIP := Lib.hid (prodS_inB p q)
  obtain ⟨S, HS⟩ : ∃ S, Hid (prodS p q = S) := ⟨_, Lib.hid rfl⟩
  have D3' : S.length ≤ p.length + q.length := by rw [← HS.out]; exact D3
  clear D3 l4
  by_cases l6 : S.length < r.length
  · have HRM0 : Hid (remS (adS ((List.replicate r.length (0 : Int)).length - r.length) r r.length (List.replicate r.length 0)) q = (List.replicate (q.length - 1 - r.length) 0 ++ r, 0)) := Lib.hid (by rw [List.length_replicate, Nat.sub_self]; exact (D1 (by rw [HS.out]; exact l6)).2)
    have HSN : Hid (S = []) := Lib.hid (by rw [← HS.out]; exact (D1 (by rw [HS.out]; exact l6)).1)
    obtain ⟨T, HT⟩ : ∃ T, Hid (List.replicate r.length (0 : Int) = T) := ⟨_, Lib.hid rfl⟩
    rw [HT.out] at HRM0
    have hT1 : T.length ≤ r.length := by rw [← HT.out]; simp
    have hT2 : r.length ≤ T.length := by rw [← HT.out]; simp
    clear D1 D2
    go_enter Try.func7, Try.ntmps7
    go_wp2_with fail
    refine (awake_any _).mono ?_
    rintro e w1 ⟨rfl, hB⟩
    obtain ⟨ad', he', hcell'⟩ := ic_cell (ic_below h1 hB) 0 hqpos
    obtain rfl : ad = ad' := by injection he'
    clear he'
    simp only [Addr.add_zero', Int.ofNat_zero] at hcell'
    go_wp2_with fail
    refine (product_any _ _ p _ _ q _ (ic_below h0 hB) (ic_below h1 hB) hq.out (by omega)).mono ?_
    rintro e w2 ⟨v, rfl, hR, hb⟩
    rw [HS.out] at hR
    obtain ⟨Ap, cp, rfl, hcp⟩ := ir_slice hR (n := S.length) rfl
    obtain ⟨-, -, hCp⟩ := ir_ic hR
    replace hB := below_step hB hb
    replace hCp := Lib.hid hCp
    clear hR hb
    have l6b : (S.length : Int) < r.length := by omega
    have hSl : S.length ≤ 0 := by rw [HSN.out]; simp
    go_wp2_with (first | (at_make; refine ir_make (w0 := w) w.heap.size .u8 1 5 33 info_u8 Try.underlying33 (by decide) rfl rfl _ _ rfl _ rfl rfl (by omega) (by omega) hB hB.size ?_; intro v4 w4 hR4 hB4 hb4; have HR4 := Lib.hid hR4; clear hR4; replace hCp := Lib.hid (ic_below hCp.out hb4); clear hb4) |
      (at_builtin; refine ir_append (w0 := w) w.heap.size .u8 1 5 33 info_u8 Try.underlying33 (by decide) rfl _ _ rfl _ _ S _ _ _ rfl rfl rfl HR4.out hCp.out hB4 hB4.size (by simp; omega) ?_; intro v5 w5 hR5 hB5 hb5; clear hb5 hB hB4 HR4 hCp; rw [show ((r.length : Int) - S.length).toNat = r.length by omega, HT.out, HSN.out, List.append_nil] at hR5; obtain ⟨As, cs, rfl, hcs⟩ := ir_slice hR5 (n := T.length) rfl; have HSR := Lib.hid hR5; have hB := hB5; clear hR5 hB5))
    have HRM := HRM0
    obtain ⟨D, HD⟩ : ∃ D, Hid (T.length = D + r.length) := ⟨T.length - r.length, Lib.hid (by omega)⟩
    have hd1 : T.length ≤ D + r.length := by rw [HD.out]; omega
    have hd2 : D + r.length ≤ T.length := by rw [HD.out]; omega
    replace HRM : Hid (remS (adS D r r.length T) q = (List.replicate (q.length - 1 - r.length) 0 ++ r, 0)) := Lib.hid (by rw [← HRM.out, HD.out, Nat.add_sub_cancel])
    go_loopw [60] (fun i wr => ∃ (k : Nat), k ≤ r.length ∧ i = .int .i64 k ∧ IR .u8 5 wr w.heap.size (.slice As T.length cs) (adS D r k T) ∧ Below w.heap.size w wr) (fun i _ => r.length - (intOf i).toNat)
    case atStart => exact ⟨0, by omega, rfl, HSR.out, hB⟩
    clear hB
    case round =>
      obtain ⟨k, hk, rfl, hR, hB⟩ := hrel
      by_cases hlt : k < r.length
      · obtain ⟨g, rfl, hg⟩ := ir_some hR (by omega)
        obtain ⟨adr, rfl, hcr⟩ := ic_cell (ic_below h2 hB) k hlt
        obtain ⟨hx, hxf⟩ := ir_cell hR (D + k) (by omega)
        have s0 : (T.length : Int) - r.length = (D : Int) := by omega
        have s0' : IntKind.i64.wrap ((T.length : Int) - r.length) = (D : Int) := by rw [s0]; exact IntWalk.i64_in _ (by omega)
        go_wp2
        go_roundw
        case rel =>
          refine ⟨k + 1, by omega, by go_num, ?_, hB.setCell hg _⟩
          exact (ir_put hR (D + k) (Go.bits .xor .u8 (rd (adS D r k T) ((D + k : Nat) : Int)) (rd r k)))
        case measure => simp [intOf]; omega
      · obtain rfl : k = r.length := by omega
        obtain ⟨hln, hcn, hCn⟩ := ir_ic hR
        clear hR
        have HCN := Lib.hid hCn
        have HLN := Lib.hid hln
        clear hCn hln
        have HRQ := ic_below h1 hB
        go_wp2_with fail
        refine (remainder_n _ _ _ _ _ _ q _ HLN.out HCN.out (ic_below h1 hB) hc1 hq.out (by omega) HRM.out).mono ?_
        rintro e w3 ⟨A3, c3, rfl, hC3, hb⟩
        replace hC3 := Lib.hid hC3
        replace hB := below_step hB hb
        clear hb
        go_wp2_with (first | (at_make; refine ir_make (w0 := w3) w3.heap.size .u8 1 5 33 info_u8 Try.underlying33 (by decide) rfl rfl _ _ rfl _ rfl rfl (by omega) (by omega) (Below.refl _ _) (Nat.le_refl _) ?_; intro v4 w4 hR4 hB4 hb4; have HR4 := Lib.hid hR4; clear hR4 hb4) |
          (at_builtin; refine ir_append (w0 := w3) w3.heap.size .u8 1 5 33 info_u8 Try.underlying33 (by decide) rfl _ _ rfl _ _ r _ _ _ rfl rfl rfl HR4.out (ic_below (ic_below h2 hB) hB4) hB4 hB4.size (by simp; omega) ?_; intro v5 w5 hR5 hB5 hb5; clear hb5 hB4; obtain ⟨A5, c5, rfl, hc5⟩ := ir_slice hR5 (n := q.length - 1 - r.length + r.length) (by first | (simp; done) | (simp; omega)); replace hC3 := Lib.hid (ic_below hC3.out hB5); replace hB := below_step hB hB5; clear hB5; obtain ⟨-, -, hC5⟩ := ir_ic hR5; clear hR5; rw [show ((q.length : Int) - 1 - r.length).toNat = q.length - 1 - r.length by omega] at hC5; have hx3 := ic_string (P := Try.prog) 33 9 5 Try.underlying33 Try.underlying5 Try.underlying9 hC3.out (q.length - 1 - r.length + r.length) c3 (by simp); have hx5 := ic_string (P := Try.prog) 33 9 5 Try.underlying33 Try.underlying5 Try.underlying9 hC5 (q.length - 1 - r.length + r.length) c5 (by simp); have hxx := strOf_beq (List.replicate (q.length - 1 - r.length) 0 ++ r); clear hC5))
        go_ret
        exact ⟨rfl, hB⟩
  · have HRM0 : Hid (remS (adS (S.length - r.length) r r.length S) q = (List.replicate (q.length - 1 - r.length) 0 ++ r, 0)) := Lib.hid (by rw [← HS.out]; exact D2 (by rw [HS.out]; omega))
    clear D1 D2
    go_enter Try.func7, Try.ntmps7
    go_wp2_with fail
    refine (awake_any _).mono ?_
    rintro e w1 ⟨rfl, hB⟩
    obtain ⟨ad', he', hcell'⟩ := ic_cell (ic_below h1 hB) 0 hqpos
    obtain rfl : ad = ad' := by injection he'
    clear he'
    simp only [Addr.add_zero', Int.ofNat_zero] at hcell'
    go_wp2_with fail
    refine (product_any _ _ p _ _ q _ (ic_below h0 hB) (ic_below h1 hB) hq.out (by omega)).mono ?_
    rintro e w2 ⟨v, rfl, hR, hb⟩
    rw [HS.out] at hR
    obtain ⟨As, cs, rfl, hcs⟩ := ir_slice hR (n := S.length) rfl
    have HSR := Lib.hid (ir_lower hR hB.size)
    replace hB := below_step hB hb
    clear hR hb
    obtain ⟨S2, HS2⟩ : ∃ S2, S = S2 := ⟨_, rfl⟩
    subst HS2
    go_wp2
    have HRM := HRM0
    obtain ⟨D, HD⟩ : ∃ D, Hid (S.length = D + r.length) := ⟨S.length - r.length, Lib.hid (by omega)⟩
    have hd1 : S.length ≤ D + r.length := by rw [HD.out]; omega
    have hd2 : D + r.length ≤ S.length := by rw [HD.out]; omega
    replace HRM : Hid (remS (adS D r r.length S) q = (List.replicate (q.length - 1 - r.length) 0 ++ r, 0)) := Lib.hid (by rw [← HRM.out, HD.out, Nat.add_sub_cancel])
    go_loopw [60] (fun i wr => ∃ (k : Nat), k ≤ r.length ∧ i = .int .i64 k ∧ IR .u8 5 wr w.heap.size (.slice As S.length cs) (adS D r k S) ∧ Below w.heap.size w wr) (fun i _ => r.length - (intOf i).toNat)
    case atStart => exact ⟨0, by omega, rfl, HSR.out, hB⟩
    clear hB
    case round =>
      obtain ⟨k, hk, rfl, hR, hB⟩ := hrel
      by_cases hlt : k < r.length
      · obtain ⟨g, rfl, hg⟩ := ir_some hR (by omega)
        obtain ⟨adr, rfl, hcr⟩ := ic_cell (ic_below h2 hB) k hlt
        obtain ⟨hx, hxf⟩ := ir_cell hR (D + k) (by omega)
        have s0 : (S.length : Int) - r.length = (D : Int) := by omega
        have s0' : IntKind.i64.wrap ((S.length : Int) - r.length) = (D : Int) := by rw [s0]; exact IntWalk.i64_in _ (by omega)
        go_wp2
        go_roundw
        case rel =>
          refine ⟨k + 1, by omega, by go_num, ?_, hB.setCell hg _⟩
          exact (ir_put hR (D + k) (Go.bits .xor .u8 (rd (adS D r k S) ((D + k : Nat) : Int)) (rd r k)))
        case measure => simp [intOf]; omega
      · obtain rfl : k = r.length := by omega
        obtain ⟨hln, hcn, hCn⟩ := ir_ic hR
        clear hR
        have HCN := Lib.hid hCn
        have HLN := Lib.hid hln
        clear hCn hln
        have HRQ := ic_below h1 hB
        go_wp2_with fail
        refine (remainder_n _ _ _ _ _ _ q _ HLN.out HCN.out (ic_below h1 hB) hc1 hq.out (by omega) HRM.out).mono ?_
        rintro e w3 ⟨A3, c3, rfl, hC3, hb⟩
        replace hC3 := Lib.hid hC3
        replace hB := below_step hB hb
        clear hb
        go_wp2_with (first | (at_make; refine ir_make (w0 := w3) w3.heap.size .u8 1 5 33 info_u8 Try.underlying33 (by decide) rfl rfl _ _ rfl _ rfl rfl (by omega) (by omega) (Below.refl _ _) (Nat.le_refl _) ?_; intro v4 w4 hR4 hB4 hb4; have HR4 := Lib.hid hR4; clear hR4 hb4) |
          (at_builtin; refine ir_append (w0 := w3) w3.heap.size .u8 1 5 33 info_u8 Try.underlying33 (by decide) rfl _ _ rfl _ _ r _ _ _ rfl rfl rfl HR4.out (ic_below (ic_below h2 hB) hB4) hB4 hB4.size (by simp; omega) ?_; intro v5 w5 hR5 hB5 hb5; clear hb5 hB4; obtain ⟨A5, c5, rfl, hc5⟩ := ir_slice hR5 (n := q.length - 1 - r.length + r.length) (by first | (simp; done) | (simp; omega)); replace hC3 := Lib.hid (ic_below hC3.out hB5); replace hB := below_step hB hB5; clear hB5; obtain ⟨-, -, hC5⟩ := ir_ic hR5; clear hR5; rw [show ((q.length : Int) - 1 - r.length).toNat = q.length - 1 - r.length by omega] at hC5; have hx3 := ic_string (P := Try.prog) 33 9 5 Try.underlying33 Try.underlying5 Try.underlying9 hC3.out (q.length - 1 - r.length + r.length) c3 (by simp); have hx5 := ic_string (P := Try.prog) 33 9 5 Try.underlying33 Try.underlying5 Try.underlying9 hC5 (q.length - 1 - r.length + r.length) c5 (by simp); have hxx := strOf_beq (List.replicate (q.length - 1 - r.length) 0 ++ r); clear hC5))
        go_ret
        exact ⟨rfl, hB⟩
end Go.Proofs.Ytndofhcacmghkaa
