import Derived.Test.YtfkfdaammlffmaaNJ
/-! Damage, walked. -/
namespace Go.Proofs.Ytfkfdaammlffmaa
set_option linter.unusedVariables false
set_option linter.unusedSimpArgs false
open Go.RowKit Go.Proofs
open Go.Proofs.YtfkfdaammlffmaaW.PrintWords
open Go.Maps (Keyed)
open Go.ChangeShapes Go.WideShapes Go.ChangeMaps

theorem im_look_run {P : Program} {w : World} {t k e : TypeId} {q : IntKind} {b n : Nat} {l : PL} (hk : P.underlying k = some (.int .i64)) (ht : P.underlying t = some (.map k e)) (he : P.underlying e = some (.int q)) (hz : (zeroValue e).run P w = .ok (.int q 0) w) (hq : (Lit.int q 0).wf = true)
    (h : IM P k e q w b n l) (i : Int) (hw : (Lit.int .i64 i).wf = true) : (Instr.lookup t (.map (some b)) (.int .i64 i) false).run P w = .ok (.int q ((look l i).getD 0)) w := by
  obtain ⟨v, ps, hrun, hR⟩ := World.ownsMap.lookup h (Maps.int_keyed hk) ht hz (plainElem_int he hq) (Maps.keyOf_int_mk hk hw)
  rw [MD_at] at hR
  rw [hrun]
  have : v = .int q ((look l i).getD 0) := by
    unfold plainElem at hR
    rw [he] at hR
    cases e : look l i with
    | none =>
      rw [e] at hR
      cases v <;> simp at hR
      obtain ⟨⟨h1, h2⟩, h3, h4⟩ := hR
      subst h1; subst h3
      rfl
    | some c =>
      rw [e] at hR
      cases v <;> simp at hR
      obtain ⟨⟨h1, h2⟩, h3, h4⟩ := hR
      subst h1; subst h3
      rfl
  rw [this]

theorem run_eql_map_nil {P : Program} (w : World) (t k e : TypeId) (m : Option Nat) (h : P.underlying t = some (.map k e)) : (binOp .eql t (.map m) (.map none)).run P w = .ok (.bool m.isNone) w := by
  simp only [binOp]
  simp [run_equal_map_nil w t k e m h]
set_option maxRecDepth 100000 in
set_option maxHeartbeats 8000000 in
theorem damageM_any {w : World} {base t g cap : Nat} {M : Med} {S : List Sf} {sv lv : Value} {N : Nat} (h : MedAt w base t M g cap S sv lv) (hw : WM N M) (lba : Int) (A : Option Addr) (nE cE : Nat) (E : List Int) (A2 : Option Addr) (nC cC : Nat) (C : PL) (hnE : E.length = nE) (hnC : C.length = nC) (hmE : nE ≤ 100000) (hmC : nC ≤ 100000)
    (hE : ∀ w', Below base w w' → IC .i64 w' A E) (hC : ∀ w', Below base w w' → PC w' A2 C) :
    Calls Try.prog 20 #[.pointer (some ⟨t, 0, none⟩), .agg #[.int .i64 lba, .slice A nE cE, .slice A2 nC cC]] w fun e w' => e = .returned (.int .i64 (damM M lba E C).2) ∧ After w w' base t (damM M lba E C).1 (Own t g S lv) := by
  have hbase : base ≤ w.heap.size := by have := h.mb.bt; have := h.mb.lt; omega
  have HNE := Lib.hid hnE
  have HNC := Lib.hid hnC
  have HW := Lib.hid hw
  have HSL := Lib.hid h.len
  have hS2 : M.L.length ≤ 4096 := hw.n2
  have hbx := heap_alloc_new w (.cells #[.int .i64 lba, .slice A nE cE, .slice A2 nC cC] 44)
  have hb1 : Below w.heap.size w (w.alloc (.cells #[.int .i64 lba, .slice A nE cE, .slice A2 nC cC] 44)) := (Below.refl _ _).alloc (Nat.le_refl _) _
  have hs1 : (w.alloc (.cells #[.int .i64 lba, .slice A nE cE, .slice A2 nC cC] 44)).heap.size = w.heap.size + 1 := by simp
  have h1 := h.below hb1
  clear hnE hnC hw
  go_enter Try.func20, Try.ntmps20
  go_wp2_with fail
  obtain ⟨w1, hw1⟩ : ∃ w1, w.alloc (.cells #[.int .i64 lba, .slice A nE cE, .slice A2 nC cC] 44) = w1 := ⟨_, rfl⟩
  rw [hw1] at hbx hb1 hs1 h1 ⊢
  have hbx0 : ∀ wr, Below w1.heap.size w1 wr → wr.heap[w.heap.size]? = some (.cells #[.int .i64 lba, .slice A nE cE, .slice A2 nC cC] 44 (0, 0)) := fun wr hb => (hb.block _ (by omega)).trans hbx
  have HBX := Lib.hid hbx0
  have hstay : ∀ wr, Below w1.heap.size w1 wr → Below w.heap.size w wr := fun wr hb => below_step hb1 hb
  have HST := Lib.hid hstay
  have HE := Lib.hid hE
  have HC := Lib.hid hC
  have hfin : ∀ wr, Below w1.heap.size w1 wr → After w wr base t M (Own t g S lv) := fun wr hb => h.stay (hstay wr hb)
  have HFIN := Lib.hid hfin
  clear hw1 hbx hbx0 hstay hE hC hfin
  by_cases hi : 0 ≤ lba ∧ lba < M.L.length
  case neg =>
    have HV : Hid (damM M lba E C = (M, 1)) := Lib.hid (damM_bad1 hi)
    refine (has_out h1.mb (by rw [HSL.out]; omega) lba (by rw [HSL.out]; exact hi)).mono ?_
    rintro e w2 ⟨rfl, hb2⟩
    clear hi h1
    go_wp2
    go_ret
    exact ⟨by rw [HV.out] <;> rfl, by rw [HV.out]; exact HFIN.out _ hb2⟩
  obtain ⟨k, rfl⟩ : ∃ k : Nat, lba = k := ⟨lba.toNat, by omega⟩
  refine (has_in h1.mb (by rw [HSL.out]; omega) k (by rw [HSL.out]; exact hi)).mono ?_
  rintro e w2 ⟨rfl, hb2⟩
  have hk : k < M.L.length := by omega
  have hb := HBX.out _ hb2
  have q0 : w2.cell? ⟨w.heap.size, 0, none⟩ = some (.int .i64 k) := by simp [World.cell?, hb]
  have q1 : w2.cell? ⟨w.heap.size, 1, none⟩ = some (.slice A nE cE) := by simp [World.cell?, hb]
  clear hi h1 hb
  go_wp2
  clear q0 q1
  go_loopw [22] (fun i wr => ∃ j : Nat, j ≤ nE ∧ i = .int .i64 j ∧ Hid (∀ p, p < j → okE E p = true) ∧ Below w1.heap.size w1 wr) (fun i _ => nE - (Go.RowKit.intOf i).toNat)
  case atStart => exact ⟨0, by omega, rfl, Lib.hid (fun p hp => by omega), hb2⟩
  clear hb2
  case round =>
    obtain ⟨j, hj, rfl, hok, hb2⟩ := hrel
    have hb := HBX.out _ hb2
    have q0 : wr.cell? ⟨w.heap.size, 0, none⟩ = some (.int .i64 k) := by simp [World.cell?, hb]
    have q1 : wr.cell? ⟨w.heap.size, 1, none⟩ = some (.slice A nE cE) := by simp [World.cell?, hb]
    have q2 : wr.cell? ⟨w.heap.size, 2, none⟩ = some (.slice A2 nC cC) := by simp [World.cell?, hb]
    clear hb
    by_cases hlt : j < nE
    · have hic := HE.out _ ((HST.out _ hb2).mono hbase)
      obtain ⟨ad, rfl, hcell⟩ := ic_cell hic j (by rw [HNE.out]; exact hlt)
      obtain ⟨x, hx⟩ : ∃ x, rd E (j : Int) = x := ⟨_, rfl⟩
      have hjn : (j : Int) < nE := by omega
      by_cases hin : 0 ≤ x ∧ x < 2352
      · rcases Nat.eq_zero_or_pos j with h0 | h0
        · subst h0
          have HOK : Hid (∀ p, p < 0 + 1 → okE E p = true) := Lib.hid (fun p hp => by
            obtain rfl : p = 0 := by omega
            unfold okE
            rw [hx]
            simp [hin.1, hin.2])
          have hi1 := hin.1
          have hi2 := hin.2
          rw [hx] at hcell
          simp only [Addr.add_zero', Int.ofNat_zero] at hcell
          clear hx hic hin
          go_wp2_with (go_at_call 46; refine (offset_in x _ hi1 hi2).mono ?_; rintro e w3 ⟨rfl, rfl⟩)
          go_roundw
          case rel => exact ⟨1, by omega, by go_num, HOK, hb2⟩
          case measure => simp [Go.RowKit.intOf]; omega
        · obtain ⟨ad', e', hcell2⟩ := ic_cell hic (j - 1) (by rw [HNE.out]; omega)
          obtain rfl := Option.some.inj e'
          clear e'
          rw [show ((j - 1 : Nat) : Int) = (j : Int) - 1 by omega] at hcell2
          obtain ⟨y, hy⟩ : ∃ y, rd E ((j : Int) - 1) = y := ⟨_, rfl⟩
          rw [hy] at hcell2
          have s1 : ((j : Int) - 1).toNat = j - 1 := by omega
          have s2 : (0 : Int) < j := by omega
          have hi1 := hin.1
          have hi2 := hin.2
          by_cases hyx : y < x
          · have HOK : Hid (∀ p, p < j + 1 → okE E p = true) := Lib.hid (fun p hp => by
              by_cases e : p = j
              · subst e
                unfold okE
                rw [hx, hy]
                simp [hin.1, hin.2, hyx]
              · exact hok.out p (by omega))
            rw [hx] at hcell
            clear hx hy hic hin hok
            go_wp2_with (go_at_call 46; refine (offset_in x _ hi1 hi2).mono ?_; rintro e w3 ⟨rfl, rfl⟩)
            go_roundw
            case rel => exact ⟨j + 1, by omega, by go_num, HOK, hb2⟩
            case measure => simp [Go.RowKit.intOf]; omega
          · have HV : Hid (damM M k E C = (M, 1)) := Lib.hid (damM_bad2 (validE_bad (k := j) (by rw [HNE.out]; exact hlt) (by
              unfold okE
              rw [hx, hy]
              simp [hyx]
              omega)))
            have hyx2 : x ≤ y := by omega
            rw [hx] at hcell
            clear hx hy hic hin hok hyx
            go_wp2_with (go_at_call 46; refine (offset_in x _ hi1 hi2).mono ?_; rintro e w3 ⟨rfl, rfl⟩)
            go_ret
            exact ⟨by rw [HV.out] <;> rfl, by rw [HV.out]; exact HFIN.out _ hb2⟩
      · have HV : Hid (damM M k E C = (M, 1)) := Lib.hid (damM_bad2 (validE_bad (k := j) (by rw [HNE.out]; exact hlt) (by
          unfold okE
          rw [hx]
          rw [Bool.eq_false_iff]
          intro h
          simp only [Bool.and_eq_true, decide_eq_true_eq] at h
          exact hin ⟨h.1.1, h.1.2⟩)))
        rw [hx] at hcell
        rcases Nat.eq_zero_or_pos j with h0 | h0
        · subst h0
          simp only [Addr.add_zero', Int.ofNat_zero] at hcell
          clear hx hic
          go_wp2_with (go_at_call 46; refine (offset_out x _ hin).mono ?_; rintro e w3 ⟨rfl, rfl⟩)
          go_ret
          exact ⟨by rw [HV.out] <;> rfl, by rw [HV.out]; exact HFIN.out _ hb2⟩
        clear hx hic
        go_wp2_with (go_at_call 46; refine (offset_out x _ hin).mono ?_; rintro e w3 ⟨rfl, rfl⟩)
        go_ret
        exact ⟨by rw [HV.out] <;> rfl, by rw [HV.out]; exact HFIN.out _ hb2⟩
    · obtain rfl : nE = j := by omega
      have HVE : Hid (validE E = true) := Lib.hid (validE_all (fun p hp => hok.out p (by rw [← HNE.out]; exact hp)))
      clear hok hlt
      go_wp2
      clear q0 q1 q2
      go_loopw [48] (fun i wr => ∃ j : Nat, j ≤ nC ∧ i = .int .i64 j ∧ Hid (∀ p (hp : p < C.length), p < j → okC C[p] = true) ∧ Below w1.heap.size w1 wr) (fun i _ => nC - (Go.RowKit.intOf i).toNat)
      case atStart => exact ⟨0, by omega, rfl, Lib.hid (fun p _ hp => by omega), hb2⟩
      clear hb2
      case round =>
        obtain ⟨j, hj, rfl, hok, hb2⟩ := hrel
        by_cases hlt : j < nC
        · have hjl : j < C.length := by rw [HNC.out]; exact hlt
          obtain ⟨b0, o0, rfl, hb0, c0, c1⟩ := pc_cell (HC.out _ ((HST.out _ hb2).mono hbase)) j hjl
          obtain ⟨x1, hx1⟩ : ∃ x1, (C[j]).1 = x1 := ⟨_, rfl⟩
          obtain ⟨x2, hx2⟩ : ∃ x2, (C[j]).2 = x2 := ⟨_, rfl⟩
          rw [hx1] at c0
          rw [hx2] at c1
          have hjn : (j : Int) < nC := by omega
          have hb3 : Below w1.heap.size w1 (wr.alloc (.cells #[.int .i64 x1, .int .i64 x2] 105)) := hb2.alloc hb2.size _
          have hbad : okC C[j] = false → Hid (damM M k E C = (M, 1)) := fun h => Lib.hid (damM_bad3 (validC_bad hjl h))
          by_cases hin : 0 ≤ x1 ∧ x1 < 2352
          · have hi1 := hin.1
            have hi2 := hin.2
            by_cases hl1 : x2 < 1
            · have HV := hbad (by unfold okC; rw [hx1, hx2]; simp; omega)
              clear hx1 hx2 hbad hin hok
              go_wp2_with (go_at_call 46; refine (offset_in x1 _ hi1 hi2).mono ?_; rintro e w3 ⟨rfl, rfl⟩)
              go_ret
              exact ⟨by rw [HV.out] <;> rfl, by rw [HV.out]; exact HFIN.out _ hb3⟩
            · have hl1' : 1 ≤ x2 := by omega
              by_cases hl2 : 255 < x2
              · have HV := hbad (by unfold okC; rw [hx1, hx2]; simp; omega)
                clear hx1 hx2 hbad hin hok hl1
                go_wp2_with (go_at_call 46; refine (offset_in x1 _ hi1 hi2).mono ?_; rintro e w3 ⟨rfl, rfl⟩)
                go_ret
                exact ⟨by rw [HV.out] <;> rfl, by rw [HV.out]; exact HFIN.out _ hb3⟩
              · have hl2' : x2 ≤ 255 := by omega
                have HOK : Hid (∀ p (hp : p < C.length), p < j + 1 → okC C[p] = true) := Lib.hid (fun p hp hpj => by
                  by_cases e : p = j
                  · subst e
                    unfold okC
                    rw [hx1, hx2]
                    simp [hi1, hi2, hl1', hl2']
                  · exact hok.out p hp (by omega))
                clear hx1 hx2 hbad hin hok hl1 hl2
                go_wp2_with (go_at_call 46; refine (offset_in x1 _ hi1 hi2).mono ?_; rintro e w3 ⟨rfl, rfl⟩)
                go_roundw
                case rel => exact ⟨j + 1, by omega, by go_num, HOK, hb3⟩
                case measure => simp [Go.RowKit.intOf]; omega
          · have HV := hbad (by
              unfold okC
              rw [hx1]
              rw [Bool.eq_false_iff]
              intro h
              simp only [Bool.and_eq_true, decide_eq_true_eq] at h
              exact hin ⟨h.1.1.1, h.1.1.2⟩)
            clear hx1 hx2 hbad hok
            go_wp2_with (go_at_call 46; refine (offset_out x1 _ hin).mono ?_; rintro e w3 ⟨rfl, rfl⟩)
            go_ret
            exact ⟨by rw [HV.out] <;> rfl, by rw [HV.out]; exact HFIN.out _ hb3⟩
        · obtain rfl : nC = j := by omega
          have HVC : Hid (validC C = true) := Lib.hid (validC_all (fun p hp => hok.out p hp (by rw [← HNC.out]; exact hp)))
          clear hok hlt
          have hb := HBX.out _ hb2
          have q0 : wr.cell? ⟨w.heap.size, 0, none⟩ = some (.int .i64 k) := by simp [World.cell?, hb]
          have hA3 := h.below (HST.out _ hb2)
          obtain ⟨c0, c1, c2, -, -⟩ := hA3.mb.cells
          have hkS : (k : Int) < S.length := by rw [HSL.out]; omega
          have hSz : S.length ≤ 9223372036854775807 := by rw [HSL.out]; omega
          clear hb
          go_wp2
          go_quiet (fail)
          have hA4 : MedAt (wr.drewN nq) base t M g cap S sv lv := hA3.below (below_drewN (Below.refl _ _) _)
          have hb4 : Below w1.heap.size w1 (wr.drewN nq) := below_drewN hb2 _
          clear q0 hA3 c0 c1 c2 hb2
          generalize wr.drewN nq = w3 at hA4 hb4 ⊢
          have hkS2 : k < S.length := by rw [HSL.out]; exact hk
          obtain ⟨s, hs, d0, d1, d2, d3, d4, df⟩ := sf_cells hA4.mb.row k hkS2
          have hsg : S.getD k sf0 = s := by rw [List.getD_eq_getElem?_getD, hs]; rfl
          have hsec := hA4.sec k hkS2
          rw [hsg] at hsec
          obtain ⟨le, hle⟩ : ∃ le, (M.L.getD k sec0).le = le := ⟨_, rfl⟩
          obtain ⟨lc, hlc⟩ : ∃ lc, (M.L.getD k sec0).lc = lc := ⟨_, rfl⟩
          have hE3 := hsec.er
          have hC3 := hsec.ch
          rw [hle] at hE3
          rw [hlc] at hC3
          have hll : le.length ≤ 2352 := by
            have hx := HW.out.at_ (k := k) hk
            rw [← hle]
            exact off_length hx.ls hx.le
          have hll2 : lc.length ≤ 2352 := by
            have hx := HW.out.at_ (k := k) hk
            rw [← hlc]
            exact off_length (by rw [hlc]; exact hC3.srt) hx.lc
          have HLE := Lib.hid hle
          have HLC := Lib.hid hlc
          have HSG := Lib.hid hsg
          have HS := Lib.hid hs
          obtain ⟨st, ct, raw, er, ch⟩ := s
          simp only at d0 d1 d2 d3 d4 hE3 hC3
          have f3 := df 3
          have f4 := df 4
          have hwb : w.heap.size ≤ w3.heap.size := (HST.out _ hb4).size
          have hin : ∀ b b', er = some b → ch = some b' → b ≠ b' := fun b b' e1 e2 e => by
            have := hA4.inj (2 * k) (2 * k + 1) b (by unfold blkOf; rw [if_pos (by omega), show 2 * k / 2 = k by omega, hsg]; exact e1) (by unfold blkOf; rw [if_neg (by omega), show (2 * k + 1) / 2 = k by omega, hsg, e]; exact e2)
            omega
          have HIN := Lib.hid hin
          have hlow : ∀ b, er = some b → base ≤ b := fun b e1 => hA4.low (2 * k) b (by unfold blkOf; rw [if_pos (by omega), show 2 * k / 2 = k by omega, hsg]; exact e1)
          have hlow2 : ∀ b, ch = some b → base ≤ b := fun b e1 => hA4.low (2 * k + 1) b (by unfold blkOf; rw [if_neg (by omega), show (2 * k + 1) / 2 = k by omega, hsg]; exact e1)
          have HLOW := Lib.hid hlow
          have HLOW2 := Lib.hid hlow2
          have hm3 := hA4.mb
          have hgb := hm3.gbase
          clear hin hlow hlow2 hsec hle hlc hsg hs df hA4 d0 d1 d2
          have hgl3 := hm3.glt
          have qA : ∀ (W : World) (r : Option Nat), (binOp .eql 98 (.map r) (.map none)).run Try.prog W = .ok (.bool r.isNone) W := fun W r => run_eql_map_nil W _ _ _ r Try.underlying98
          have qB : ∀ (W : World) (r : Option Nat), (binOp .eql 99 (.map r) (.map none)).run Try.prog W = .ok (.bool r.isNone) W := fun W r => run_eql_map_nil W _ _ _ r Try.underlying99
          go_upto_if 78 with (fail)
          go_cut [80] (fun _ wx => ∃ be, MB wx base t g cap M.kd M.en (S.set k ⟨st, ct, raw, some be, ch⟩) sv lv ∧ HasSet wx (some be) le ∧ (er = some be ∨ w3.heap.size ≤ be) ∧ But g g w3 wx)
          case first =>
            cases er with
            | none =>
              have hp := put_map hm3 k hkS2 _ ⟨st, ct, raw, some w3.heap.size, ch⟩ HS.out 3 rfl (by decide)
              have hle0 : le = [] := by cases hE3; rfl
              have HP := Lib.hid hp
              have HL0 := Lib.hid hle0
              have hmm := @run_makeMap Try.prog
              clear hp hle0
              go_wp2
              go_meet
              exact ⟨w3.heap.size, HP.out.1, by rw [HL0.out]; exact .set _ 0 _ ⟨#[], 0, HP.out.2.1, ⟨by simp, MapKept.stamped_empty 0, by simp⟩, Nat.le_refl _, rfl⟩, .inr (Nat.le_refl _), HP.out.2.2⟩
            | some b =>
              have hss : Hid (S.set k ⟨st, ct, raw, some b, ch⟩ = S) := Lib.hid (set_same _ _ _ HS.out)
              go_wp2
              go_meet
              exact ⟨b, by rw [hss.out]; exact hm3, hE3, .inl rfl, But.refl _ _ _⟩
          case rest =>
            obtain ⟨be, hm4, hE4, heo, hbt4⟩ := hcut
            have hC4 : HasMap wc ch lc := hC3.of_block (fun b e => hbt4.block b (hC3.lt b e) (by
              obtain ⟨es, cl, hh⟩ := hC3.is_map e
              exact hm3.gmap hh) (by
              obtain ⟨es, cl, hh⟩ := hC3.is_map e
              exact hm3.gmap hh))
            have hbn : ∀ b, ch = some b → be ≠ b := fun b e => by
              rcases heo with h1 | h1
              · exact HIN.out be b h1 e
              · have := hC3.lt b e; omega
            have hebs : base ≤ be := by
              rcases heo with h1 | h1
              · exact HLOW.out be h1
              · have := (HST.out _ hb4).size; omega
            have hel := hE4.lt be rfl
            have HBN := Lib.hid hbn
            have HEO := Lib.hid heo
            have hk4 : k < (S.set k ⟨st, ct, raw, some be, ch⟩).length := by rw [List.length_set]; exact hkS2
            obtain ⟨s4, hs4, d0, d1, d2, d3', d4', df4⟩ := sf_cells hm4.row k hk4
            have hs4' : s4 = ⟨st, ct, raw, some be, ch⟩ := by
              rw [List.getElem?_set] at hs4
              simp [hkS2] at hs4
              exact hs4.symm
            subst hs4'
            simp only at d4'
            have f4' := df4 4
            have hgl4 := hm4.glt
            clear hbn heo d0 d1 d2 d3' df4 d3 d4 f3 f4 hC3 hE3
            go_upto_if 87 with (fail)
            go_cut [89] (fun _ wx => ∃ bc, MB wx base t g cap M.kd M.en (S.set k ⟨st, ct, raw, some be, some bc⟩) sv lv ∧ HasSet wx (some be) le ∧ HasMap wx (some bc) lc ∧ be ≠ bc ∧ (ch = some bc ∨ w3.heap.size ≤ bc) ∧ But g g w3 wx)
            case first =>
              have HS4 := Lib.hid hs4
              clear hs4
              cases ch with
              | none =>
                have hp := put_map hm4 k hk4 _ ⟨st, ct, raw, some be, some wc.heap.size⟩ HS4.out 4 rfl (by decide)
                have hlc0 : lc = [] := by cases hC4; rfl
                have HP := Lib.hid hp
                have HL0 := Lib.hid hlc0
                have hE5 : HasSet ((wc.setCell ⟨g, k * 5 + 4, none⟩ (.map (some wc.heap.size))).alloc (.map #[] 0)) (some be) le := hE4.of_block (fun b e => by
                  injection e with e
                  subst e
                  obtain ⟨es, cl, hh⟩ := hE4.is_map rfl
                  exact HP.out.2.2.block _ hel (hm4.gmap hh) (hm4.gmap hh))
                have hmm := @run_makeMap Try.prog
                have hw34 := hbt4.size
                clear hp hlc0
                go_wp2
                go_meet
                exact ⟨wc.heap.size, by have := HP.out.1; rw [List.set_set] at this; exact this, hE5, by rw [HL0.out]; exact .map _ 0 _ ⟨#[], 0, HP.out.2.1, ⟨by simp, MapKept.stamped_empty 0, by simp⟩, Nat.le_refl _, rfl⟩, by omega, .inr hw34, hbt4.trans HP.out.2.2⟩
              | some b =>
                go_wp2
                go_meet
                exact ⟨b, hm4, hE4, hC4, HBN.out b rfl, .inl rfl, hbt4⟩
            case rest =>
              obtain ⟨bc, hm5, hE5, hC5, hne, hco, hbt5⟩ := hcut
              have HCO := Lib.hid hco
              have hbcs : base ≤ bc := by
                rcases hco with h1 | h1
                · exact HLOW2.out bc h1
                · omega
              have hbcl := hC5.lt bc rfl
              have hbel := hE5.lt be rfl
              have hgw : g < w.heap.size := h.mb.glt
              have hb1s := hb4.size
              have hbx5 : wc.heap[w.heap.size]? = some (.cells #[.int .i64 k, .slice A nE cE, .slice A2 nC cC] 44 (0, 0)) := (hbt5.block _ (by omega) (by omega) (by omega)).trans (HBX.out _ hb4)
              have q1 : wc.cell? ⟨w.heap.size, 1, none⟩ = some (.slice A nE cE) := by simp [World.cell?, hbx5]
              have hBw5 : Below base w wc := But.below ((HST.out _ hb4).mono hbase) hbt5 (by omega) hgb hgb
              have hbeg : be ≠ g := by
                obtain ⟨es, cl, hh⟩ := hE5.is_map rfl
                exact hm5.gmap hh
              have hbcg : bc ≠ g := by
                obtain ⟨es, cl, hh⟩ := hC5.is_map rfl
                exact hm5.gmap hh
              have hbet : t ≠ be := fun e => by
                obtain ⟨es, cl, hh⟩ := hE5.is_map rfl
                rw [← e, hm5.blk] at hh; cases hh
              have hbct : t ≠ bc := fun e => by
                obtain ⟨es, cl, hh⟩ := hC5.is_map rfl
                rw [← e, hm5.blk] at hh; cases hh
              have hbew : be ≠ w.heap.size := fun e => by
                obtain ⟨es, cl, hh⟩ := hE5.is_map rfl
                rw [e, hbx5] at hh; cases hh
              have hbcw : bc ≠ w.heap.size := fun e => by
                obtain ⟨es, cl, hh⟩ := hC5.is_map rfl
                rw [e, hbx5] at hh; cases hh
              have hk5 : k < (S.set k ⟨st, ct, raw, some be, some bc⟩).length := by rw [List.length_set]; exact hkS2
              obtain ⟨s5, hs5, d0, d1, d2, d3, d4, df5⟩ := sf_cells hm5.row k hk5
              have hs5' : s5 = ⟨st, ct, raw, some be, some bc⟩ := by
                rw [List.getElem?_set] at hs5
                simp [hkS2] at hs5
                exact hs5.symm
              subst hs5'
              simp only at d3 d4
              have HD3 := Lib.hid d3
              have HD4 := Lib.hid d4
              obtain ⟨nn, hIS⟩ : ∃ nn, IS Try.prog 3 4 wc be nn le := by cases hE5; exact ⟨_, ‹_›⟩
              have hIS0 := is_size hIS
              have hszg : g < wc.heap.size := hm5.glt
              clear hs5 hs4 hco d0 d1 d2 d3 d4 df5 hm4 hE4 hC4 hIS hbt4 d4' f4' hE5
              generalize wc = w5 at *
              go_wp2
              clear q1
              go_loopw [95] (fun i wr => ∃ j : Nat, j ≤ nE ∧ i = .int .i64 j ∧ IS Try.prog 3 4 wr be (le.length + j) (damE le (E.take j)) ∧ But be be w5 wr) (fun i _ => nE - (Go.RowKit.intOf i).toNat)
              case atStart => exact ⟨0, by omega, rfl, hIS0, But.refl _ _ _⟩
              clear hIS0
              case round =>
                obtain ⟨j, hj, rfl, hI, hbt⟩ := hrel
                have hBwr := But.below hBw5 hbt (by omega) hebs hebs
                by_cases hlt : j < nE
                · have hjl : j < E.length := by rw [HNE.out]; exact hlt
                  obtain ⟨ad, rfl, hcell⟩ := ic_cell (HE.out _ hBwr) j hjl
                  obtain ⟨x, hx⟩ : ∃ x, rd E (j : Int) = x := ⟨_, rfl⟩
                  have hxr := okE_spec (List.all_eq_true.1 HVE.out j (List.mem_range.2 hjl))
                  rw [hx] at hcell hxr
                  have hx0 := hxr.1
                  have hx1 := hxr.2.1
                  have HT : Hid (damE le (E.take (j + 1)) = putL x 0 (damE le (E.take j))) := Lib.hid (by
                    rw [List.take_add_one, List.getElem?_eq_getElem hjl]
                    have : E[j] = x := by rw [← hx]; simp [Go.Proofs.YtfkfdaammlffmaaW.PrintWords.rd, List.getD_eq_getElem?_getD, List.getElem?_eq_getElem hjl]
                    rw [this]
                    exact damE_snoc _ _ _)
                  have hjn : (j : Int) < nE := by omega
                  have d3 : wr.cell? ⟨g, k * 5 + 3, none⟩ = some (.map (some be)) := hbt.cell HD3.out (Ne.symm hbeg) (Ne.symm hbeg)
                  clear hx hxr hjl
                  go_wp2_with (at_mapUpdate; refine is_put _ rfl _ _ _ 98 rfl 3 4 Try.underlying3 Try.underlying98 Try.underlying4 be (le.length + j) (damE le (E.take j)) rfl hI (by unfold maxLen; omega) x rfl rfl (WalkArith.wf_i64 (by omega)) 0 ?_; intro w9 h9 hg9; have H9 : Hid (IS Try.prog 3 4 w9 be (le.length + (j + 1)) (damE le (E.take (j + 1)))) := Lib.hid (by rw [HT.out]; exact h9); have hbt9 : But be be w5 w9 := hbt.trans (But.of_grown hg9 (fun b e => by injection e with e; exact .inl e.symm)); clear h9 hg9 d3 hI hbt)
                  go_roundw
                  case rel => exact ⟨j + 1, by omega, by go_num, H9.out, hbt9⟩
                  case measure => simp [Go.RowKit.intOf]; omega
                · obtain rfl : nE = j := by omega
                  have hIE : IS Try.prog 3 4 wr be (le.length + nE) (damE le E) := by rw [List.take_of_length_le (by rw [HNE.out]; exact Nat.le_refl _)] at hI; exact hI
                  have hC6 : HasMap wr (some bc) lc := hC5.of_block (fun b e => by injection e with e; subst e; exact hbt.block _ hbcl (Ne.symm hne) (Ne.symm hne))
                  obtain ⟨nn, hIM⟩ : ∃ nn, IM Try.prog 3 5 .u8 wr bc nn lc := by cases hC6; exact ⟨_, ‹_›⟩
                  have hIM0 := im_size hIM
                  have hbx6 : wr.heap[w.heap.size]? = some (.cells #[.int .i64 k, .slice A nE cE, .slice A2 nC cC] 44 (0, 0)) := (hbt.block _ (Array.getElem?_eq_some_iff.1 hbx5).1 (Ne.symm hbew) (Ne.symm hbew)).trans hbx5
                  have q2 : wr.cell? ⟨w.heap.size, 2, none⟩ = some (.slice A2 nC cC) := by simp [World.cell?, hbx6]
                  have hm6 := hm5.keep (hbt.block t hm5.lt hbet hbet) (hbt.block g hszg (Ne.symm hbeg) (Ne.symm hbeg))
                  have hbel6 : be < wr.heap.size := Nat.lt_of_lt_of_le hbel hbt.size
                  have hbcl6 : bc < wr.heap.size := Nat.lt_of_lt_of_le hbcl hbt.size
                  have hgl6 : g < wr.heap.size := hm6.glt
                  have HD6 : Hid (wr.cell? ⟨g, k * 5 + 4, none⟩ = some (.map (some bc))) := Lib.hid (hbt.cell HD4.out (Ne.symm hbeg) (Ne.symm hbeg))
                  have HT6 : Tn (fun j => j = g ∨ j = be ∨ j = bc) w wr := ((Tn.of_below (HST.out _ hb4)).trans (Tn.of_but (X := fun j => j = g ∨ j = be ∨ j = bc) hbt5 (.inl rfl) (.inl rfl)) (fun j _ h => h)).trans (Tn.of_but (X := fun j => j = g ∨ j = be ∨ j = bc) hbt (.inr (.inl rfl)) (.inr (.inl rfl))) (fun j _ h => h)
                  have HTN := Lib.hid HT6
                  clear hI hIM hC6 hbx6 HT6 hbt hm5 hC5 hbx5 hBw5 hlt HD3 HD4
                  generalize wr = w6 at *
                  go_wp2
                  clear q2
                  go_loopw [108] (fun i wr => ∃ j : Nat, j ≤ nC ∧ i = .int .i64 j ∧ IM Try.prog 3 5 .u8 wr bc (lc.length + j) (damC lc (C.take j)) ∧ But bc bc w6 wr) (fun i _ => nC - (Go.RowKit.intOf i).toNat)
                  case atStart => exact ⟨0, by omega, rfl, hIM0, But.refl _ _ _⟩
                  clear hIM0
                  case round =>
                    obtain ⟨j, hj, rfl, hI, hbt⟩ := hrel
                    have hBwr2 := But.below hBwr hbt (by omega) hbcs hbcs
                    by_cases hlt : j < nC
                    · have hjl : j < C.length := by rw [HNC.out]; exact hlt
                      obtain ⟨b0, o0, rfl, hb0, c0, c1⟩ := pc_cell (HC.out _ hBwr2) j hjl
                      have hok := okC_spec (List.all_eq_true.1 HVC.out _ (List.getElem_mem hjl))
                      obtain ⟨x1, hx1⟩ : ∃ x1, (C[j]).1 = x1 := ⟨_, rfl⟩
                      obtain ⟨x2, hx2⟩ : ∃ x2, (C[j]).2 = x2 := ⟨_, rfl⟩
                      have HT : Hid (damC lc (C.take (j + 1)) = putL x1 (xb ((look (damC lc (C.take j)) x1).getD 0) x2) (damC lc (C.take j))) := Lib.hid (by
                        rw [List.take_add_one, List.getElem?_eq_getElem hjl, ← hx1, ← hx2]
                        exact damC_snoc _ _ _)
                      rw [hx1, hx2] at hok
                      rw [hx1] at c0
                      rw [hx2] at c1
                      obtain ⟨k1, k2, k3, k4'⟩ := hok
                      have hjn : (j : Int) < nC := by omega
                      have hba : Below wr.heap.size wr (wr.alloc (.cells #[.int .i64 x1, .int .i64 x2] 105)) := (Below.refl _ _).alloc (Nat.le_refl _) _
                      have hI2 : IM Try.prog 3 5 .u8 (wr.alloc (.cells #[.int .i64 x1, .int .i64 x2] 105)) bc (lc.length + j) (damC lc (C.take j)) := im_of_block hI (hba.block bc (Nat.lt_of_lt_of_le hbcl6 hbt.size))
                      have d4 : (wr.alloc (.cells #[.int .i64 x1, .int .i64 x2] 105)).cell? ⟨g, k * 5 + 4, none⟩ = some (.map (some bc)) := (hba.cell (show g < wr.heap.size from Nat.lt_of_lt_of_le hgl6 hbt.size)).trans (hbt.cell HD6.out (Ne.symm hbcg) (Ne.symm hbcg))
                      have hwx1 : (Lit.int .i64 x1).wf = true := WalkArith.wf_i64 (by omega)
                      have hlk : ∀ W : World, W.heap = (wr.alloc (.cells #[.int .i64 x1, .int .i64 x2] 105)).heap → (Instr.lookup 99 (.map (some bc)) (.int .i64 x1) false).run Try.prog W = .ok (.int .u8 ((look (damC lc (C.take j)) x1).getD 0)) W := fun W hW =>
                        im_look_run Try.underlying3 Try.underlying99 Try.underlying5 (Try.zeroValue5 W) (by decide) (im_of_block hI2 (by rw [hW])) x1 hwx1
                      have hnew := heap_alloc_new wr (.cells #[.int .i64 x1, .int .i64 x2] 105)
                      have hbt2 : But bc bc w6 (wr.alloc (.cells #[.int .i64 x1, .int .i64 x2] 105)) := hbt.trans (But.of_below hba)
                      have hw8 : IntKind.u8.wrap x2 = x2 := by rw [IntKind.wrap_u8]; omega
                      obtain ⟨y, hy⟩ : ∃ y, (look (damC lc (C.take j)) x1).getD 0 = y := ⟨_, rfl⟩
                      rw [hy] at hlk HT
                      clear hx1 hx2 hjl hba hbt hI hy
                      go_wp2
                      have e0 : (wr.alloc (.cells #[.int .i64 x1, .int .i64 x2] 105)).cell? ⟨wr.heap.size, 0, none⟩ = some (.int .i64 x1) := by unfold World.cell?; rw [hnew]; rfl
                      have e1 : (wr.alloc (.cells #[.int .i64 x1, .int .i64 x2] 105)).cell? ⟨wr.heap.size, 1, none⟩ = some (.int .i64 x2) := by unfold World.cell?; rw [hnew]; rfl
                      clear hnew c0 c1
                      generalize wr.alloc (.cells #[.int .i64 x1, .int .i64 x2] 105) = w8 at hI2 d4 hlk hbt2 e0 e1 ⊢
                      have hlk1 := hlk w8 rfl
                      have hlk2 := hlk w8.drew rfl
                      have hI3 : IM Try.prog 3 5 .u8 w8.drew bc (lc.length + j) (damC lc (C.take j)) := im_of_block hI2 rfl
                      have hwy : (Lit.int .u8 (xb y x2)).wf = true := wf_bits _ _ _ _
                      clear hlk
                      go_still_tail 11, (by kernel_rfl)
                      change wpList _ _ _ _ _ w8.drew
                      go_wp2_with (at_mapUpdate; refine im_put _ rfl _ _ _ 99 rfl 3 5 .u8 Try.underlying3 Try.underlying99 Try.underlying5 bc (lc.length + j) (damC lc (C.take j)) rfl hI3 (by unfold maxLen; omega) x1 (xb y x2) rfl rfl hwx1 hwy ?_; intro w9 h9 hg9; have H9 : Hid (IM Try.prog 3 5 .u8 w9 bc (lc.length + (j + 1)) (damC lc (C.take (j + 1)))) := Lib.hid (by rw [HT.out]; exact h9); have hbt9 : But bc bc w6 w9 := (hbt2.drew).trans (But.of_grown hg9 (fun b e => by injection e with e; exact .inl e.symm)); clear h9 hg9 d4 hI2 hI3 hbt2 hlk1 hlk2 e0 e1)
                      go_roundw
                      case rel => exact ⟨j + 1, by omega, by go_num, H9.out, hbt9⟩
                      case measure => simp [Go.RowKit.intOf]; omega
                    · obtain rfl : nC = j := by omega
                      have hIC : IM Try.prog 3 5 .u8 wr bc (lc.length + nC) (damC lc C) := by rw [List.take_of_length_le (by rw [HNC.out]; exact Nat.le_refl _)] at hI; exact hI
                      have hm7 := hm6.keep (hbt.block t hm6.lt hbct hbct) (hbt.block g hgl6 (Ne.symm hbcg) (Ne.symm hbcg))
                      have hE7 : HasSet wr (some be) (damE le E) := .set _ _ _ (is_of_block hIE (hbt.block be hbel6 hne hne))
                      have hT7 := HTN.out.trans (Tn.of_but (X := fun j => j = g ∨ j = be ∨ j = bc) hbt (.inr (.inr rfl)) (.inr (.inr rfl))) (fun j _ h => h)
                      have hAf := h.dam hkS2 HSG.out hm7 hE7 (.map _ _ _ hIC) hT7 (HEO.out.imp id (fun h => by omega)) (HCO.out.imp id (fun h => by omega)) hne
                      have HV : Hid (damM M k E C = (M.put k { (M.L.getD k sec0) with le := damE le E, lc := damC lc C }, 0)) := Lib.hid (by rw [damM_good hk HVE.out HVC.out, HLE.out, HLC.out])
                      clear hIC hm7 hE7 hT7 hI hbt
                      go_wp2
                      go_ret
                      exact ⟨by rw [HV.out] <;> rfl, by rw [HV.out]; exact hAf⟩
end Go.Proofs.Ytfkfdaammlffmaa
