import Derived.Test.YtfkfdaammlffmaaNC
/-! The law MediumScratches: its plain parts and its walk. -/
namespace Go.Proofs.Ytfkfdaammlffmaa
set_option linter.unusedVariables false
set_option linter.unusedSimpArgs false
open Go.RowKit Go.Proofs
open Go.Proofs.YtfkfdaammlffmaaW.PrintWords

theorem MB.keep {w w' : World} {base t g cap : Nat} {kd en : Int} {S : List Sf} {sv lv : Value} (h : MB w base t g cap kd en S sv lv) (ht : w'.heap[t]? = w.heap[t]?) (hg : w'.heap[g]? = w.heap[g]?) : MB w' base t g cap kd en S sv lv :=
  ⟨ht.trans h.blk, sf_of_block h.row (fun k e => by simp [Value.ownBlock] at e; subst e; exact hg), h.ne, h.bt⟩
theorem MB.glt {w : World} {base t g cap : Nat} {kd en : Int} {S : List Sf} {sv lv : Value} (h : MB w base t g cap kd en S sv lv) : g < w.heap.size := Kd.R_lt h.row g rfl
/-- a medium is kept by what turns another medium's head alone -/
theorem MB.but {w w' : World} {base t g cap x : Nat} {kd en : Int} {S : List Sf} {sv lv : Value} (h : MB w base t g cap kd en S sv lv) (hb : But x x w w') (h1 : t ≠ x) (h2 : g ≠ x) : MB w' base t g cap kd en S sv lv :=
  h.keep (hb.block t h.lt h1 h1) (hb.block g h.glt h2 h2)
theorem LM.but {w w' : World} {base x : Nat} {lv : Value} {offs : List Int} (h : LM w base lv offs) (hb : But x x w w') {cur : Array Value} {T : Nat} (hx : w.heap[x]? = some (.cells cur T (0, 0))) (hT : T ≠ 3) : LM w' base lv offs :=
  h.keep (fun b es cl hh _ => hb.block b (Array.getElem?_eq_some_iff.1 hh).1 (fun e => by subst e; rw [hx] at hh; cases hh) (fun e => by subst e; rw [hx] at hh; cases hh))
    (fun g c hh => hb.block g (Array.getElem?_eq_some_iff.1 hh).1 (fun e => by subst e; rw [hx] at hh; injection hh with hh; injection hh with _ hh; exact hT hh) (fun e => by subst e; rw [hx] at hh; injection hh with hh; injection hh with _ hh; exact hT hh)) hb.size
theorem PV.but {w w' : World} {base x : Nat} {sv : Value} {l : PL} (h : PV w base sv l) (hb : But x x w w') {cur : Array Value} {T : Nat} (hx : w.heap[x]? = some (.cells cur T (0, 0))) (hT : T ≠ 36) : PV w' base sv l :=
  h.of_block (fun k e => by
    obtain ⟨-, hk2, cur', hk3⟩ := h.lt k e
    have : k ≠ x := fun e2 => by subst e2; rw [hx] at hk3; injection hk3 with hk3; injection hk3 with _ hk3; exact hT hk3
    exact hb.block k hk2 this this)

/-- the first k sectors are recorded -/
def recN (z : ByteArray) (n k : Nat) : List Sf := List.replicate k ⟨1, 1, z, none, none⟩ ++ List.replicate (n - k) sf0
theorem recN_length {z : ByteArray} {n k : Nat} (h : k ≤ n) : (recN z n k).length = n := by simp [recN]; omega
theorem recN_step {z : ByteArray} {n k : Nat} (h : k < n) (hz : z.size = 2352) : recordS 1 1 (recN z n k) k z = (recN z n (k + 1), 0) := by
  have hl := recN_length (z := z) (Nat.le_of_lt h)
  have hg : (recN z n k).getD k sf0 = sf0 := by
    unfold recN
    rw [List.getD_eq_getElem?_getD, List.getElem?_append_right (by simp)]
    rw [List.length_replicate, Nat.sub_self, List.getElem?_replicate]
    split <;> rfl
  unfold recordS
  rw [if_neg (by rw [hl]; omega), if_neg (by rw [hz]; simp), Int.toNat_natCast, hg]
  have hw : writeS 1 1 sf0 1 z = (⟨1, 1, z, none, none⟩, 0) := by unfold writeS; simp [sf0]
  rw [hw]
  refine Prod.ext ?_ rfl
  show (recN z n k).set k ⟨1, 1, z, none, none⟩ = recN z n (k + 1)
  unfold recN
  rw [List.set_append_right _ _ (by simp), List.length_replicate, Nat.sub_self]
  obtain ⟨d, hd⟩ : ∃ d, n - k = d + 1 := ⟨n - k - 1, by omega⟩
  rw [hd, show n - (k + 1) = d by omega, List.replicate_succ, List.set_cons_zero, List.replicate_succ', List.append_assoc]
  rfl
theorem recN_get {z : ByteArray} {n j : Nat} (h : j < n) : (recN z n n)[j]? = some ⟨1, 1, z, none, none⟩ := by
  unfold recN
  rw [Nat.sub_self, List.replicate_zero, List.append_nil, List.getElem?_replicate, if_pos h]
theorem recN_ct {z : ByteArray} {n k : Nat} : CtOk (recN z n k) := fun s hs => by
  unfold recN at hs
  rcases List.mem_append.1 hs with h | h
  · rw [(List.mem_replicate.1 h).2]; simp
  · rw [(List.mem_replicate.1 h).2]; simp [sf0]
theorem recN_zero {z : ByteArray} {n : Nat} : recN z n 0 = List.replicate n sf0 := by simp [recN]

/-- what the first k scratches erase of n sectors -/
def offK (l : PL) (n k : Nat) : List Int := lostS (goneS (l.take k) (98 * n + 108) k) (98 * n)
theorem offK_zero (l : PL) (n : Nat) : offK l n 0 = [] := by
  unfold offK
  rw [List.take_zero]
  have hg : ∀ i, (goneS [] (98 * n + 108) 0).getD i false = false := fun i => by
    unfold goneS
    rw [List.take_zero, List.foldl_nil, List.getD_eq_getElem?_getD, List.getElem?_replicate]
    split <;> rfl
  unfold lostS
  rw [List.flatMap_eq_nil_iff]
  exact fun f _ => lostF_none _ _ (fun i _ => hg _)
theorem offK_all {l : PL} {n m : Nat} (h : l.length = m) : offK l n m = lostS (goneS l (98 * n + 108) m) (98 * n) := by
  unfold offK
  rw [List.take_of_length_le (by omega)]
theorem take_snoc {l : PL} {k : Nat} (h : k < l.length) : l.take k ++ [((l[k]).1, (l[k]).2)] = l.take (k + 1) := by
  rw [List.take_add_one, List.getElem?_eq_getElem h]; rfl
theorem fit_take {l : PL} {n : Int} (h : allFit l n = true) (k : Nat) : allFit (l.take k) n = true := by
  unfold allFit at *
  rw [List.all_eq_true] at *
  exact fun x hx => h x (List.mem_of_mem_take hx)
theorem fit_at {l : PL} {n : Int} (h : allFit l n = true) {k : Nat} (hk : k < l.length) : allFit [((l[k]).1, (l[k]).2)] n = true := by
  unfold allFit at *
  rw [List.all_eq_true] at *
  intro x hx
  rw [List.mem_singleton] at hx
  subst hx
  exact h _ (List.getElem_mem hk)

set_option maxRecDepth 100000 in
set_option maxHeartbeats 8000000 in
theorem law_MediumScratches (s0 : Int) (A : Option Addr) (c : Nat) (l : PL) (w : World) (ws : (Lit.int .u8 s0).wf = true) (hp : PC w A l) (hc : l.length ≤ c) (gl : ∀ x ∈ l, (Lit.int .i64 x.1).wf = true ∧ (Lit.int .i64 x.2).wf = true) :
    Calls Try.prog 3 #[.int .u8 s0, .slice A l.length c] w fun e w' => e = .returned (.bool true) ∧ Below w.heap.size w w' := by
  obtain ⟨s1, s2⟩ := byte_wf ws
  obtain ⟨m, hm⟩ : ∃ m, l.length = m := ⟨_, rfl⟩
  rw [hm]
  have HM := Lib.hid hm
  have hmx : m ≤ 9223372036854775807 := by rw [← hm]; exact Kd.C_max hp
  have HP := Lib.hid hp
  clear ws hm gl hc hp
  by_cases hbig : 8 < m
  · have hbig' : (8 : Int) < m := by omega
    go_enter Try.func3, Try.ntmps3
    go_wp2_with fail
    refine (awake_any _).mono ?_
    rintro e w1 ⟨rfl, hB⟩
    go_wp2
    go_ret
    exact ⟨rfl, hB⟩
  have hm8 : m ≤ 8 := by omega
  have hm8' : (m : Int) ≤ 8 := by omega
  clear hbig
  go_enter Try.func3, Try.ntmps3
  go_wp2_with fail
  refine (awake_any _).mono ?_
  rintro e w1 ⟨rfl, hB⟩
  go_wp2_with fail
  obtain ⟨n, hn⟩ : ∃ n : Nat, 1 + s0 % 4 = n := ⟨(1 + s0 % 4).toNat, by omega⟩
  have n1 : 1 ≤ n := by omega
  have n2 : n ≤ 4 := by omega
  rw [hn]
  clear hn s1 s2
  refine (Try.strings_Repeat ⟨#[120]⟩ 2352 _ (by decide) (by decide)).mono ?_
  rintro e w2 ⟨rfl, hb⟩
  replace hB := below_step hB hb
  clear hb
  obtain ⟨z, hz⟩ : ∃ z, (⟨(Lib.repeatL (⟨#[120]⟩ : ByteArray).data.toList 2352).toArray⟩ : ByteArray) = z := ⟨_, rfl⟩
  have HZL : Hid (z.size = 2352) := Lib.hid (by
    rw [← hz]
    show (Lib.repeatL [120] 2352).toArray.size = 2352
    rw [List.size_toArray, Lib.repeatL_length]; rfl)
  rw [hz]
  clear hz
  go_wp2_with fail
  refine (new_any 1 n 1 _ ⟨by decide, by omega, by omega, by decide, by decide⟩).mono ?_
  rintro e w3 ⟨ta, ga, ca, rfl, hA, hBa⟩
  have hga := hA.gbase
  have hta := hA.bt
  have htl := hA.lt
  have hgl := hA.glt
  have hw2 := hB.size
  replace hB := below_step hB hBa
  clear hBa
  go_wp2_with fail
  refine (new_any 1 n 1 _ ⟨by decide, by omega, by omega, by decide, by decide⟩).mono ?_
  rintro e w4 ⟨tb, gb, cb, rfl, hBb, hBB⟩
  have hgb := hBb.gbase
  have htb := hBb.bt
  have hw3 := hB.size
  have hA4 := hA.below hBB
  replace hB := below_step hB hBB
  have hA' : MB w4 w2.heap.size ta ga ca 1 1 (recN z n 0) (.slice none 0 0) (.map none) := by rw [recN_zero]; exact hA4
  have hB' : MB w4 w3.heap.size tb gb cb 1 1 (recN z n 0) (.slice none 0 0) (.map none) := by rw [recN_zero]; exact hBb
  clear hA hA4 hBb hBB
  have KA : ∀ (k : Nat), k < n → ∀ (W : World) (base t g cap : Nat), MB W base t g cap 1 1 (recN z n k) (.slice none 0 0) (.map none) → Calls Try.prog 11 #[.pointer (some ⟨t, 0, none⟩), .int .i64 k, .string z] W fun e w' => e = .returned (.int .i64 0) ∧ MB w' base t g cap 1 1 (recN z n (k + 1)) (.slice none 0 0) (.map none) ∧ But g g W w' := by
    intro k hk W base t g cap hW
    have := record_any hW (by rw [recN_length (Nat.le_of_lt hk)]; omega) (.inl rfl) recN_ct k z (by rw [HZL.out]; omega)
    rw [recN_step hk HZL.out] at this
    exact this
  have HKA := Lib.hid KA
  clear KA
  go_wp2
  go_loopw [61] (fun i wr => ∃ k : Nat, k ≤ n ∧ i = .int .i64 k ∧ MB wr w2.heap.size ta ga ca 1 1 (recN z n k) (.slice none 0 0) (.map none) ∧ MB wr w3.heap.size tb gb cb 1 1 (recN z n k) (.slice none 0 0) (.map none) ∧ Below w.heap.size w wr) (fun i _ => n - (Go.RowKit.intOf i).toNat)
  case atStart => exact ⟨0, by omega, rfl, hA', hB', hB⟩
  clear hA' hB' hB
  case round =>
    obtain ⟨k, hk, rfl, hA, hBb, hB⟩ := hrel
    by_cases hlt : k < n
    · go_wp2_with fail
      refine (HKA.out k hlt _ _ _ _ _ hA).mono ?_
      rintro e w5 ⟨rfl, hA5, hbt⟩
      have hB5 := hBb.but hbt (by omega) (by omega)
      have hbl := But.below hB hbt hB.size (by omega) (by omega)
      clear hA hBb hB hbt
      go_wp2_with fail
      refine (HKA.out k hlt _ _ _ _ _ hB5).mono ?_
      rintro e w6 ⟨rfl, hB6, hbt⟩
      have hA6 := hA5.but hbt (by omega) (by omega)
      have hbl2 := But.below hbl hbt hbl.size (by omega) (by omega)
      clear hA5 hB5 hbl hbt
      go_wp2
      go_roundw
      case rel => exact ⟨k + 1, by omega, by go_num, hA6, hB6, hbl2⟩
      case measure => simp [Go.RowKit.intOf]; omega
    · obtain rfl : n = k := by omega
      obtain ⟨SN, hSN⟩ : ∃ SN, recN z n n = SN := ⟨_, rfl⟩
      have hSl : SN.length = n := by rw [← hSN]; exact recN_length (Nat.le_refl _)
      have HSN := Lib.hid hSN
      have HSL := Lib.hid hSl
      rw [hSN] at hA hBb
      obtain ⟨bo, hbo⟩ : ∃ bo, allFit l (98 * (n : Int) + 108) = bo := ⟨_, rfl⟩
      obtain ⟨offs, hoffs⟩ : ∃ offs, lostS (goneS l (98 * n + 108) m) (98 * n) = offs := ⟨_, rfl⟩
      have hL := lost_any (98 * n) A c l m wr (by omega) (by omega) (Kd.C_below HP.out hB) HM.out (by omega)
      rw [show (((98 * n : Nat)) : Int) = 98 * (n : Int) by omega, hbo, hoffs] at hL
      have HBO := Lib.hid hbo
      have HOF := Lib.hid hoffs
      have HLO := Lib.hid hL
      have hn4 : (98 : Int) * n ≤ 392 := by omega
      have hn5 : (0 : Int) ≤ 98 * n := by omega
      clear hSN hSl hbo hoffs hL
      go_wp2_with fail
      refine HLO.out.mono ?_
      rintro e w5 ⟨hb5, hres⟩
      have hA5 := hA.below hb5
      have hB5 := hBb.below hb5
      have hBl := below_step hB hb5
      have hwr := hB.size
      have hwr5 := hb5.size
      have hwr2 := hA.lt
      have hwr3 := hBb.lt
      have hwr4 := hBb.glt
      clear hA hBb hB hb5
      rcases hres with ⟨hf, rfl⟩ | ⟨hf, v5, rfl, hO5⟩
      · go_wp2_with fail
        refine (scratchM_any hA5 (PV.nil _ _) (by simp) (by simp [allFit]) (by rw [HSL.out]; omega) (by rw [HSL.out]; omega) A c l m (Kd.C_below HP.out hBl) HM.out (by omega) false (by rw [HSL.out, HBO.out, hf]) _ rfl).mono ?_
        rintro e w6 (⟨-, rfl, hb6⟩ | ⟨h, -⟩ | ⟨h, -⟩)
        · have hA6 := hA5.below hb6
          have hBl6 := below_step hBl hb6
          clear hA5 hB5 hBl hb6 hf
          go_wp2_with fail
          refine (clean_in hA6 (by rw [HSL.out]; omega) (LM.nil _ _) (by simp) 0 ⟨1, 1, z, none, none⟩ (by rw [← HSN.out]; exact recN_get (by omega)) [] [] .nil .nil (fun x h => by cases h) (by simp) true (by rw [goneL_none]; rfl)).mono ?_
          rintro e w7 ⟨rfl, hb7⟩
          have hB7 := below_step hBl6 hb7
          go_wp2
          go_ret
          exact ⟨rfl, hB7⟩
        · cases h
        · cases h
      · go_wp2_with fail
        refine (scratchM_any hA5 (PV.nil _ _) (by simp) (by simp [allFit]) (by rw [HSL.out]; omega) (by rw [HSL.out]; omega) A c l m (Kd.C_below HP.out hBl) HM.out (by omega) true (by rw [HSL.out, HBO.out, hf]) offs (by rw [HSL.out, List.nil_append, List.length_nil, Nat.zero_add]; exact HOF.out)).mono ?_
        rintro e w6 (⟨h, -⟩ | ⟨-, h, -⟩ | ⟨-, -, rfl, sva, lva, hA6, hP6, hL6, hbt⟩)
        · cases h
        · simp at h; omega
        have hB6 := hB5.but hbt (by omega) (by omega)
        have hO6 := ir_of_block hO5 (w' := w6) (fun j e => hbt.block j (Kd.R_lt hO5 j e) (by have := Kd.R_base hO5 j e; omega) (by have := Kd.R_base hO5 j e; omega))
        have hBl6 := But.below hBl hbt hBl.size (by omega) (by omega)
        have hw5 : wr.heap.size ≤ w6.heap.size := Nat.le_trans hwr5 hbt.size
        have HBT : Hid (bo = true) := Lib.hid hf
        clear hA5 hB5 hO5 hBl hbt hP6 hf HLO
        go_wp2
        go_loopw [96] (fun i wr2 => ∃ (k : Nat) (svb lvb : Value), k ≤ m ∧ i = .int .i64 k ∧ MB wr2 w3.heap.size tb gb cb 1 1 SN svb lvb ∧ PV wr2 w3.heap.size svb (l.take k) ∧ LM wr2 w3.heap.size lvb (offK l n k) ∧ But tb tb w6 wr2) (fun i _ => m - (Go.RowKit.intOf i).toNat)
        case atStart => exact ⟨0, _, _, by omega, rfl, hB6, by rw [List.take_zero]; exact PV.nil _ _, by rw [offK_zero]; exact LM.nil _ _, But.refl _ _ _⟩
        have HBK := Lib.hid hB6.blk
        clear hB6
        case round =>
          obtain ⟨k, svb, lvb, hk, rfl, hB7, hP7, hL7, hbt⟩ := hrel
          have hBl7 := But.below hBl6 hbt hBl6.size (by omega) (by omega)
          by_cases hlt : k < m
          · have hkl : k < l.length := by rw [HM.out]; exact hlt
            obtain ⟨b0, o0, rfl, hb0, c0, c1⟩ := pc_cell (Kd.C_below HP.out hBl7) k hkl
            obtain ⟨x1, hx1⟩ : ∃ x1, (l[k]).1 = x1 := ⟨_, rfl⟩
            obtain ⟨x2, hx2⟩ : ∃ x2, (l[k]).2 = x2 := ⟨_, rfl⟩
            have hsn := take_snoc hkl
            have hft := fit_at (HBO.out.trans HBT.out) hkl
            have hft2 := fit_take (HBO.out.trans HBT.out) k
            rw [hx1, hx2] at hsn hft
            rw [hx1] at c0
            rw [hx2] at c1
            have HSNO := Lib.hid hsn
            have HFT := Lib.hid hft
            have HFT2 := Lib.hid hft2
            have hba : Below wr.heap.size wr ((wr.alloc (.cells #[.int .i64 x1, .int .i64 x2] 36)).alloc (.cells #[.int .i64 x1, .int .i64 x2] 36)) := ((Below.refl _ _).alloc (Nat.le_refl _) _).alloc (by simp) _
            have hpc := pc_lit (wr.alloc (.cells #[.int .i64 x1, .int .i64 x2] 36)) x1 x2
            rw [show (wr.alloc (.cells #[.int .i64 x1, .int .i64 x2] 36)).heap.size = wr.heap.size + 1 by simp] at hpc
            have hB8 := hB7.below hba
            have hP8 := hP7.below hba
            have hL8 := hL7.below hba
            have hbt8 : But tb tb w6 ((wr.alloc (.cells #[.int .i64 x1, .int .i64 x2] 36)).alloc (.cells #[.int .i64 x1, .int .i64 x2] 36)) := hbt.trans (But.of_below hba)
            have hmk : (k : Int) < m := by omega
            have hlk : (l.take k).length = k := by rw [List.length_take]; omega
            have HLK := Lib.hid hlk
            clear hB7 hP7 hL7 hbt hba hsn hft hft2 hx1 hx2 hlk hkl
            go_wp2_with fail
            refine (scratchM_any hB8 hP8 (by rw [HLK.out]; omega) (by rw [HSL.out]; exact HFT2.out) (by rw [HSL.out]; omega) (by rw [HSL.out]; omega) (some ⟨wr.heap.size + 1, 0, none⟩) 1 [(x1, x2)] 1 hpc rfl (by omega) true (by rw [HSL.out]; exact HFT.out) (offK l n (k + 1)) (by rw [HSL.out, HSNO.out, HLK.out]; rfl)).mono ?_
            rintro e w8 (⟨h, -⟩ | ⟨-, h, -⟩ | ⟨-, -, rfl, svb', lvb', hB9, hP9, hL9, hbt9⟩)
            · cases h
            · rw [HLK.out] at h; omega
            have hbt10 := hbt8.trans hbt9
            rw [HSNO.out] at hP9
            clear hB8 hP8 hL8 hbt8 hbt9 hpc
            go_wp2
            go_roundw
            case rel => exact ⟨k + 1, _, _, by omega, by go_num, hB9, hP9, hL9, hbt10⟩
            case measure => simp [Go.RowKit.intOf]; omega
          · obtain rfl : m = k := by omega
            have hA7 := hA6.but hbt (by omega) (by omega)
            have hL6' := hL6.but hbt HBK.out (by decide)
            have hO7 := ir_of_block hO6 (w' := wr) (fun j e => hbt.block j (Kd.R_lt hO6 j e) (by have := Kd.R_base hO6 j e; omega) (by have := Kd.R_base hO6 j e; omega))
            rw [offK_all HM.out, HOF.out] at hL7
            obtain ⟨no, hno⟩ : ∃ no, offs.length = no := ⟨_, rfl⟩
            have hno2 : offs.length ≤ 20000000 := by
              rw [← HOF.out]
              have := lostS_length (goneS l (98 * n + 108) m) (98 * n)
              omega
            have HNO := Lib.hid hno
            obtain ⟨A5, c5, rfl, hc5⟩ := ir_slice hO7 hno
            have HO7 := Lib.hid (ir_ic hO7).2.2
            have HALL : Hid (allL offs n = offs) := Lib.hid (by rw [← HOF.out]; exact allL_eq)
            clear hA6 hL6 hO6 hP7 hO7 hno hc5 hbt
            generalize wr = w7 at *
            go_wp2
            go_loopw [107, 16] (fun i v wr => ∃ k : Nat, k ≤ n ∧ i = .int .i64 k ∧ IR .i64 3 wr w7.heap.size v (allL offs k) ∧ Below w7.heap.size w7 wr) (fun i _ _ => n - (Go.RowKit.intOf i).toNat)
            case atStart => exact ⟨0, by omega, rfl, ir_nil _ _ _ _, Below.refl _ _⟩
            case round =>
              obtain ⟨k, hk2, rfl, hR, hb7⟩ := hrel
              by_cases hlt2 : k < n
              · obtain ⟨v, rfl⟩ : ∃ v, v = u16 := ⟨_, rfl⟩
                obtain ⟨G, hG⟩ : ∃ G, goneL [] offs k = G := ⟨_, rfl⟩
                obtain ⟨X, hX⟩ : ∃ X, strOfNums (readL (bytesOf z) [] G) = X := ⟨_, rfl⟩
                have hRT : readT 1 z [] (goneL [] offs k) = (X, G, 0) := by
                  unfold readT
                  rw [if_neg (by decide), if_pos rfl, hG, hX]
                have hXs : X.size = 2352 := by
                  rw [← hX, strOfNums_size]
                  unfold readL
                  rw [mkL_length, bytesOf_length, HZL.out]
                have hX0 : ∀ (kx : Nat) (h : kx < X.size), (kx : Int) ∈ G → X[kx] = 0 := by
                  intro kx h hm
                  subst hX
                  have hl : kx < (readL (bytesOf z) [] G).length := by rwa [strOfNums_size] at h
                  have e1 := readL_gone (raw := bytesOf z) (lc := []) hm
                  have e2 : (strOfNums (readL (bytesOf z) [] G)).data.toList[kx]? = some (UInt8.ofNat ((readL (bytesOf z) [] G)[kx]).toNat) := by
                    rw [strOfNums_data, List.getElem?_map, List.getElem?_eq_getElem hl]; rfl
                  have e3 : (readL (bytesOf z) [] G)[kx] = 0 := by
                    have : rd (readL (bytesOf z) [] G) kx = (readL (bytesOf z) [] G)[kx] := by
                      simp [rd, List.getD_eq_getElem?_getD, List.getElem?_eq_getElem hl]
                    rw [← this]; exact e1
                  rw [e3] at e2
                  have e4 : (strOfNums (readL (bytesOf z) [] G)).data[kx]? = some 0 := by
                    rw [← Array.getElem?_toList]; exact e2
                  exact (Array.getElem?_eq_some_iff.1 e4).2
                have hGm : ∀ x ∈ G, 0 ≤ x ∧ x < 2352 := fun x hx => by rw [← hG] at hx; exact (mem_eraL.1 hx).1
                obtain ⟨ng, hng⟩ : ∃ ng, G.length = ng := ⟨_, rfl⟩
                have hng2 : ng ≤ 2352 := by rw [← hng, ← hG]; exact eraL_length _
                have HRT := Lib.hid hRT
                have HXS := Lib.hid hXs
                have HX0 := Lib.hid hX0
                have HGM := Lib.hid hGm
                have HNG := Lib.hid hng
                have HGG := Lib.hid hG
                have hget := recN_get (z := z) hlt2
                rw [HSN.out] at hget
                have HGET := Lib.hid hget
                have hal := allL_length offs k
                clear hG hX hRT hXs hX0 hGm hng hget
                have hA8 := hA7.below hb7
                have hLA8 := hL6'.below hb7
                go_wp2_with fail
                refine (read_in hA8 (by rw [HSL.out]; omega) hLA8 hno2 k ⟨1, 1, z, none, none⟩ HGET.out [] [] .nil .nil (fun x h => by cases h) (fun x h => by cases h) (by simp) (fun _ => HZL.out) (.inr (.inl rfl)) _ HRT.out).mono ?_
                rintro e w8 ⟨v8, rfl, hR8, hb8⟩
                obtain ⟨A8, c8, rfl, -⟩ := ir_slice hR8 HNG.out
                have hb9 := below_step hb7 hb8
                have hRv8 := ir_below hR hb8
                have hB8 := hB7.below hb9
                have hLB8 := hL7.below hb9
                have hvl : ∀ j, v.ownBlock = some j → j < wr.heap.size := fun j e => Kd.R_lt hR j e
                have hxb : ∀ j, (Value.slice A8 ng c8).ownBlock = some j → wr.heap.size ≤ j := fun j e => Kd.R_base hR8 j e
                have HVL := Lib.hid hvl
                have HXB := Lib.hid hxb
                clear hA8 hLA8 hR hb7 hb8 hvl hxb
                go_wp2_with fail
                refine (read_in hB8 (by rw [HSL.out]; omega) hLB8 hno2 k ⟨1, 1, z, none, none⟩ HGET.out [] [] .nil .nil (fun x h => by cases h) (fun x h => by cases h) (by simp) (fun _ => HZL.out) (.inr (.inl rfl)) _ HRT.out).mono ?_
                rintro e w9 ⟨v9, rfl, hR9, hb8⟩
                obtain ⟨A9, c9, rfl, -⟩ := ir_slice hR9 HNG.out
                have hb10 := below_step hb9 hb8
                have hRv9 := ir_below hRv8 hb8
                have hRx9 := ir_below hR8 hb8
                have hI8 : IC .i64 w9 A8 G := (ir_ic hRx9).2.2
                have hI9 : IC .i64 w9 A9 G := (ir_ic hR9).2.2
                have hxs1 : ((X.size : Int) != 2352) = false := by rw [HXS.out]; rfl
                clear hB8 hLB8 hb9 hRv8 hR8 hb8 hR9
                go_wp2_with fail
                refine (equal_any A8 A9 ng c8 ng c9 G G _ hI8 hI9 HNG.out HNG.out).mono ?_
                rw [show (G == G) = true by simp]
                rintro e w10 ⟨rfl, hq⟩
                have hb11 := drawn_below hq
                have hb12 := below_step hb10 hb11
                have hRv10 := ir_below hRv9 hb11
                have hRx10 := ir_below hRx9 hb11
                clear hI8 hI9 hq hb10 hb11 hRv9 hRx9
                go_wp2
                go_loopw [148, 16] (fun i v2 wr2 => ∃ j : Nat, j ≤ ng ∧ i = .int .i64 j ∧ IR .i64 3 wr2 w7.heap.size v2 (allL offs k ++ (secL offs k).take j) ∧ Below w7.heap.size w7 wr2 ∧ w10.grownBy wr2 v.ownBlock ∧ (v2.ownBlock = v.ownBlock ∨ ∃ b, v2.ownBlock = some b ∧ w10.heap.size ≤ b)) (fun i _ _ => ng - (Go.RowKit.intOf i).toNat)
                case atStart => exact ⟨0, by omega, rfl, by rw [List.take_zero, List.append_nil]; exact hRv10, hb12, ⟨rfl, rfl, rfl, Nat.le_refl _, fun _ _ _ => rfl⟩, .inl rfl⟩
                clear hRv10 hb12
                case round =>
                  obtain ⟨j, hj, rfl, hRv, hb13, hgr, hat⟩ := hrel
                  have hsl := secL_length offs k
                  have hlen : (allL offs k ++ (secL offs k).take j).length ≤ 2352 * k + 2352 := by
                    rw [List.length_append, List.length_take]; omega
                  by_cases hlt3 : j < ng
                  · have hjg : j < G.length := by rw [HNG.out]; exact hlt3
                    have hRx := ir_of_block hRx10 (w' := wr) (fun b e => hgr.block b (Kd.R_lt hRx10 b e) (fun e2 => by have := HVL.out b e2.symm; have := HXB.out b e; omega))
                    obtain ⟨ad, rfl, hcell⟩ := ic_cell (ir_ic hRx).2.2 j hjg
                    obtain ⟨x, hx⟩ : ∃ x, rd G (j : Int) = x := ⟨_, rfl⟩
                    have hgm : G[j]? = some x := by rw [← hx]; simp [rd, List.getD_eq_getElem?_getD, List.getElem?_eq_getElem hjg]
                    have hxm := List.mem_of_getElem? hgm
                    obtain ⟨hx0, hx1⟩ := HGM.out x hxm
                    rw [hx] at hcell
                    have htk := secL_take_succ offs k j x (by rw [HGG.out]; exact hgm)
                    obtain ⟨kx, rfl⟩ : ∃ kx : Nat, x = kx := ⟨x.toNat, by omega⟩
                    have hkX : kx < X.size := by rw [HXS.out]; omega
                    have hkX2 : (kx : Int) < X.size := by omega
                    have hX00 := HX0.out kx hkX hxm
                    have HTK := Lib.hid htk
                    have hjn : (j : Int) < ng := by omega
                    have hk4 : (k : Int) ≤ 4 := by omega
                    clear hx hgm hxm htk hRx hjg hsl
                    have hlen3 : ((allL offs k ++ (secL offs k).take j).length + 1) * 8 ≤ 140737488355328 := by omega
                    have HAT := Lib.hid hat
                    clear hat
                    go_wp2_with (at_builtin; refine ir_app1 (w0 := w7) w7.heap.size .i64 8 3 30 info_int Try.underlying30 (by decide) rfl _ _ rfl u16 (allL offs k ++ (secL offs k).take j) (2352 * (k : Int) + (kx : Int)) rfl rfl hRv hb13 hb13.size hlen3 ?_; intro v20 w20 hR20 hb20 hg20 hat20; have HR20 : Hid (IR .i64 3 w20 w7.heap.size v20 (allL offs k ++ (secL offs k).take (j + 1))) := Lib.hid (by rw [HTK.out, ← List.append_assoc]; exact hR20); have HG20 := Lib.hid hg20; have HAT20 := Lib.hid hat20; clear hR20 hg20 hat20)
                    have HG21 : w10.grownBy w20 v.ownBlock := hgr.andThen HG20.out (fun b e => by
                      rcases HAT.out with h | ⟨b2, h, hb⟩
                      · exact .inr (by rw [← h]; exact e)
                      · rw [h] at e; injection e with e; subst e; exact .inl hb)
                    have HAT21 : v20.ownBlock = v.ownBlock ∨ ∃ b, v20.ownBlock = some b ∧ w10.heap.size ≤ b := by
                      rcases HAT20.out with h | ⟨b2, h, hb⟩
                      · rw [h]; exact HAT.out
                      · exact .inr ⟨b2, h, Nat.le_trans hgr.size hb⟩
                    have HAT22 := Lib.hid HAT21
                    clear HAT21
                    go_roundw
                    case rel => exact ⟨j + 1, by omega, by go_num, HR20.out, hb20, HG21, HAT22.out⟩
                    case measure => simp [Go.RowKit.intOf]; omega
                  · obtain rfl : ng = j := by omega
                    have HTK : Hid (allL offs k ++ (secL offs k).take ng = allL offs (k + 1)) := Lib.hid (by
                      rw [List.take_of_length_le (by unfold secL; rw [List.length_map, HGG.out, HNG.out]; exact Nat.le_refl _)]
                      rfl)
                    rw [HTK.out] at hRv
                    go_wp2
                    go_roundw
                    case rel => exact ⟨k + 1, by omega, by go_num, hRv, hb13⟩
                    case measure => simp [Go.RowKit.intOf]; omega
              · obtain rfl : n = k := by omega
                rw [HALL.out] at hR
                obtain ⟨A6, c6, hv6, -⟩ := ir_slice hR HNO.out
                subst hv6
                go_wp2_with fail
                refine (equal_any A6 A5 no c6 no c5 offs offs _ (ir_ic hR).2.2 (ic_below HO7.out hb7) HNO.out HNO.out).mono ?_
                rw [show (offs == offs) = true by simp]
                rintro e w10 ⟨rfl, hq⟩
                have hbz := below_step (below_step hBl7 hb7) (drawn_below hq)
                go_wp2
                go_ret
                exact ⟨rfl, hbz⟩
end Go.Proofs.Ytfkfdaammlffmaa
