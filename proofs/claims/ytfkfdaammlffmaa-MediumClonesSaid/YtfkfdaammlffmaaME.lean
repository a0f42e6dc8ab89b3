import Derived.Test.YtfkfdaammlffmaaMD
/-! circ.Lost, walked. -/
namespace Go.Proofs.Ytfkfdaammlffmaa
set_option linter.unusedVariables false
set_option linter.unusedSimpArgs false
open Go.RowKit Go.Proofs
open Go.Proofs.YtfkfdaammlffmaaW.PrintWords

theorem zero_P (w : World) : (zeroValue 36).run Try.prog w = .ok (.agg #[.int .i64 0, .int .i64 0]) w := by kernel_rfl
def allFit (l : PL) (fr : Int) : Bool := l.all (fun s => fitsS s.1 s.2 fr)

theorem rd_nat {l : List Int} {j : Nat} (h : j < l.length) : rd l (j : Int) = l[j] := by unfold rd; simp [List.getD_eq_getElem?_getD, h]
theorem rd_in {l : List Int} {j : Nat} (h : j < l.length) : rd l (j : Int) ∈ l := by rw [rd_nat h]; exact List.getElem_mem h
theorem lostP_succ (er : List Int) (f j : Nat) (h : j < er.length) : lostP er f (j + 1) = lostP er f j ++ (if 4 < er.length ∧ rd er j < 24 then [24 * (f : Int) + rd er j] else []) := by
  unfold lostP
  rw [List.take_add_one, List.getElem?_eq_getElem h, Option.toList_some, List.filter_append, List.map_append, rd_nat h]
  congr 1
  by_cases h4 : 4 < er.length
  · by_cases h24 : er[j] < 24
    · simp [h4, h24]
    · simp [h4, h24]
  · simp [h4]
theorem lostP_le (er : List Int) (f j : Nat) : (lostP er f j).length ≤ j := by
  unfold lostP
  rw [List.length_map]
  refine Nat.le_trans (List.length_filter_le _ _) ?_
  rw [List.length_take]; omega
theorem er_range (gn : List Bool) (f k : Nat) : ∀ y ∈ erS gn f k, 0 ≤ y ∧ y < k := fun y hy => by
  unfold erS at hy
  obtain ⟨i, hi, rfl⟩ := List.mem_map.1 hy
  have := (List.mem_filter.1 hi).1
  have : i < k := by simpa using this
  omega
theorem br_all {base g n cap : Nat} {w : World} {xs : List Bool} (h : BR w base (.slice (some ⟨g, 0, none⟩) n cap) xs) : ∀ j, j < n → w.cell? ⟨g, j, none⟩ = some (.bool (xs.getD j false)) := fun j hj => (br_cell h j hj).1

set_option maxRecDepth 100000 in
set_option maxHeartbeats 4000000 in
theorem lost_any (n : Nat) (A : Option Addr) (c : Nat) (l : PL) (m : Nat) (w : World) (h1 : 1 ≤ n) (h2 : n ≤ 401408) (hp : PC w A l) (hm : l.length = m) (hm2 : m ≤ 1000) :
    Calls Try.prog 12 #[.int .i64 n, .slice A m c] w fun e w' => Below w.heap.size w w' ∧
      ((allFit l (n + 108) = false ∧ e = .returned (.tuple #[.slice none 0 0, .int .i64 1])) ∨
       (allFit l (n + 108) = true ∧ ∃ v, e = .returned (.tuple #[v, .int .i64 0]) ∧ IR .i64 3 w' w.heap.size v (lostS (goneS l (n + 108) m) n))) := by
  have hz := zero_P
  have HM := Lib.hid hm
  clear hm
  go_enter Try.func12, Try.ntmps12
  go_wp2_with fail
  refine (frames_any n (by omega) (by omega) _).mono ?_
  rintro e w1 ⟨rfl, rfl⟩
  have hne : (((n : Int) + 108) == 0) = false := by simp; omega
  go_wp2_with (first | (at_make; refine br_make (w0 := w) w.heap.size 91 info_bool Try.underlying91 rfl rfl _ _ rfl ((n : Int) + 108) rfl rfl (by omega) (by omega) (Below.refl _ _) (Nat.le_refl _) ?_; intro v1 w2 hG2 hB2 hb2; have hG2' : BR w2 w.heap.size v1 (List.replicate (n + 108) false) := (by have := hG2; rwa [show ((n : Int) + 108).toNat = n + 108 by omega] at this); obtain ⟨g, cg, rfl, hg1, hg2⟩ := br_slice hG2' (n := n + 108) (by simp) (by omega); clear hG2 hb2) | (at_make; refine br_make (w0 := _) _ 91 info_bool Try.underlying91 rfl rfl _ _ rfl (n : Int) rfl rfl (by omega) (by omega) (Below.refl _ _) (Nat.le_refl _) ?_; intro v3 w3 hT3 hB3 hb3))
  obtain ⟨b7, hb7⟩ : ∃ b7, w2.heap.size = b7 := ⟨_, rfl⟩
  have hsA : (w2.alloc (.cells #[.slice (some ⟨g, 0, none⟩) (n + 108) cg] 91)).heap.size = b7 + 1 := by simp [hb7]
  have h7A : (w2.alloc (.cells #[.slice (some ⟨g, 0, none⟩) (n + 108) cg] 91)).heap[b7]? = some (.cells #[.slice (some ⟨g, 0, none⟩) (n + 108) cg] 91 (0, 0)) := by rw [← hb7]; exact (MapKept.heap_alloc w2 _).1
  have hBA := hB2.alloc hB2.size (.cells #[.slice (some ⟨g, 0, none⟩) (n + 108) cg] 91)
  have hGA := Kd.R_below hG2' ((Below.refl w2.heap.size w2).alloc (Nat.le_refl _) (.cells #[.slice (some ⟨g, 0, none⟩) (n + 108) cg] 91))
  have h7 := (hb3.block b7 (by rw [hsA]; omega)).trans h7A
  have hG := Kd.R_below hGA hb3
  have hB := below_step hBA hb3
  rw [Int.toNat_natCast, hsA] at hT3
  obtain ⟨tt, ct, rfl, ht1, ht2⟩ := br_slice hT3 (n := n) (by simp) (by omega)
  have hw7 : w.heap.size ≤ b7 := by rw [← hb7]; exact hB2.size
  have hgl : g < b7 := by omega
  try rw [hb7]
  clear hG2' hB2 hb3 hB3 hBA hGA h7A hsA hb7
  go_loopw [28] (fun i wr => ∃ (k : Nat) (tl : List Bool), k ≤ m ∧ i = .int .i64 k ∧ BR wr w.heap.size (.slice (some ⟨g, 0, none⟩) (n + 108) cg) (goneS l (n + 108) k) ∧ BR wr (b7 + 1) (.slice (some ⟨tt, 0, none⟩) n ct) tl ∧ Hid (InvT (goneS l (n + 108) k) tl n) ∧ wr.heap[b7]? = some (.cells #[.slice (some ⟨g, 0, none⟩) (n + 108) cg] 91 (0, 0)) ∧ Hid (∀ j (h : j < l.length), j < k → fitsS (l[j]).1 (l[j]).2 (n + 108) = true) ∧ Below w.heap.size w wr) (fun i _ => m - (intOf i).toNat)
  case atStart => exact ⟨0, _, by omega, rfl, hG, hT3, Lib.hid (inv_start _ _), h7, Lib.hid (fun j h hj => by omega), hB⟩
  clear hG hT3 h7 hB ht2 hg2
  case round =>
    obtain ⟨k, tl, hk, rfl, hG, hT, hI, h7, hF, hB⟩ := hrel
    by_cases hlt : k < m
    · have hkl : k < l.length := by rw [HM.out]; exact hlt
      obtain ⟨b0, o0, rfl, hb0, c0, c1⟩ := pc_cell (Kd.C_below hp hB) k hkl
      have HGS := Lib.hid (goneS_succ l (n + 108) k hkl)
      obtain ⟨xp, hxp⟩ : ∃ xp, l[k] = xp := ⟨_, rfl⟩
      rw [hxp] at c0 c1 HGS
      obtain ⟨a, cn⟩ := xp
      simp only at c0 c1 HGS
      obtain ⟨b, hbf⟩ : ∃ b, fitsS a cn ((n : Int) + 108) = b := ⟨_, rfl⟩
      have HBF := Lib.hid hbf
      have HXP := Lib.hid hxp
      obtain ⟨g10, hg10⟩ : ∃ g10, wr.heap.size = g10 := ⟨_, rfl⟩
      have hs := heap_alloc_new wr (.cells #[.int .i64 0, .int .i64 0] 36)
      rw [hg10] at hs
      have hbA : Below wr.heap.size wr ((wr.alloc (.cells #[.int .i64 0, .int .i64 0] 36)).setRow g10 #[.int .i64 a, .int .i64 cn]) := below_setRow ((Below.refl _ _).alloc (Nat.le_refl _) _) (Nat.le_of_eq hg10) _
      have h10 : ((wr.alloc (.cells #[.int .i64 0, .int .i64 0] 36)).setRow g10 #[.int .i64 a, .int .i64 cn]).heap[g10]? = some (.cells #[.int .i64 a, .int .i64 cn] 36 (0, 0)) := setRow_heap _ _ _ _ _ _ hs
      have e0 : ((wr.alloc (.cells #[.int .i64 0, .int .i64 0] 36)).setRow g10 #[.int .i64 a, .int .i64 cn]).cell? ⟨g10, 0, none⟩ = some (.int .i64 a) := by simp [World.cell?, h10]
      have e1 : ((wr.alloc (.cells #[.int .i64 0, .int .i64 0] 36)).setRow g10 #[.int .i64 a, .int .i64 cn]).cell? ⟨g10, 1, none⟩ = some (.int .i64 cn) := by simp [World.cell?, h10]
      have hG1 := Kd.R_below hG hbA
      have hT1 := Kd.R_below hT hbA
      have h71 := (hbA.block b7 (Array.getElem?_eq_some_iff.1 h7).1).trans h7
      have hB1 := below_step hB hbA
      have hlt10 : g10 < ((wr.alloc (.cells #[.int .i64 0, .int .i64 0] 36)).setRow g10 #[.int .i64 a, .int .i64 cn]).heap.size := (Array.getElem?_eq_some_iff.1 h10).1
      have hgt := Kd.R_lt hG g rfl
      have htt := Kd.R_lt hT tt rfl
      rw [hg10] at hgt htt
      clear hG hT h7 hB hbA hbf hxp
      go_wp2_with (refine wpList_store_row rfl 36 _ _ rfl g10 _ rfl rfl 36 _ hs (by kernel_rfl) rfl (by kernel_rfl) ?_)
      generalize (wr.alloc (.cells #[.int .i64 0, .int .i64 0] 36)).setRow g10 #[.int .i64 a, .int .i64 cn] = wa at h10 e0 e1 hG1 hT1 h71 hB1 hlt10 ⊢
      clear hs c0 c1
      refine (fits_any a cn ((n : Int) + 108) (by omega) (by omega) _ b HBF.out).mono ?_
      rintro e y1 ⟨rfl, hy⟩
      have h10' := (hy.block g10 hlt10).trans h10
      have hG2 := Kd.R_below hG1 hy
      have hT2 := Kd.R_below hT1 hy
      have h72 := (hy.block b7 (Array.getElem?_eq_some_iff.1 h71).1).trans h71
      have hB2 := below_step hB1 hy
      clear h10 hG1 hT1 h71 hB1 hy e0 e1 hlt10
      cases b with
      | false =>
        go_wp2
        go_ret2
        refine ⟨hB2, .inl ⟨?_, rfl⟩⟩
        unfold allFit
        cases ha : l.all (fun s => fitsS s.1 s.2 ((n : Int) + 108)) with
        | false => rfl
        | true =>
          have := List.all_eq_true.1 ha _ (List.getElem_mem hkl)
          rw [HXP.out] at this
          rw [HBF.out] at this
          exact absurd this (by simp)
      | true =>
        have hff := HBF.out
        unfold fitsS at hff
        simp only [Bool.and_eq_true, decide_eq_true_eq] at hff
        obtain ⟨⟨⟨ff1, ff2⟩, ff3⟩, ff4⟩ := hff
        obtain ⟨na, rfl⟩ : ∃ na : Nat, a = na := ⟨a.toNat, by omega⟩
        obtain ⟨nc, rfl⟩ : ∃ nc : Nat, cn = nc := ⟨cn.toNat, by omega⟩
        rw [Int.toNat_natCast, Int.toNat_natCast] at HGS
        have hgne : g ≠ b7 := by omega
        have hgne2 : g ≠ g10 := by omega
        have htne : tt ≠ g := by omega
        have ht7 : tt ≠ b7 := by omega
        have ht10 : tt ≠ g10 := by omega
        have hlen := goneS_length l (n + 108) k
        obtain ⟨G, hGe⟩ : ∃ G, goneS l (n + 108) k = G := ⟨_, rfl⟩
        rw [hGe] at hG2 hlen HGS hI
        have e1 : y1.cell? ⟨g10, 1, none⟩ = some (.int .i64 nc) := by simp [World.cell?, h10']
        clear hGe
        go_wp2
        go_loopw [38] (fun v wr2 => ∃ i : Nat, i ≤ nc ∧ v = .int .i64 i ∧ BR wr2 w.heap.size (.slice (some ⟨g, 0, none⟩) (n + 108) cg) (setS G na i) ∧ But g g y1 wr2) (fun v _ => nc - (intOf v).toNat)
        case atStart => exact ⟨0, by omega, rfl, by rw [setS_zero]; exact hG2, But.refl _ _ _⟩
        clear hG2 e1
        case round =>
          obtain ⟨i, hi, rfl, hG, hbt⟩ := hrel
          by_cases hli : i < nc
          · have c7 : wr.cell? ⟨b7, 0, none⟩ = some (.slice (some ⟨g, 0, none⟩) (n + 108) cg) := by simp [World.cell?, (hbt.block b7 (Array.getElem?_eq_some_iff.1 h72).1 (Ne.symm hgne) (Ne.symm hgne)).trans h72]
            have e0 : wr.cell? ⟨g10, 0, none⟩ = some (.int .i64 na) := by simp [World.cell?, (hbt.block g10 (Array.getElem?_eq_some_iff.1 h10').1 (Ne.symm hgne2) (Ne.symm hgne2)).trans h10']
            obtain ⟨hx, hxf⟩ := br_cell hG (na + i) (by omega)
            have hput := br_put hG (na + i) true
            have HSET := Lib.hid (setS_succ G na i (by omega))
            have hidx : (na : Int) + i < n + 108 := by omega
            have hti : ((na : Int) + i).toNat = na + i := by omega
            go_wp2
            go_roundw
            case rel => exact ⟨i + 1, by omega, by go_num, by rw [← HSET.out]; exact hput, hbt.set rfl _⟩
            case measure => simp [intOf]; omega
          · obtain rfl : nc = i := by omega
            have h10 := (hbt.block g10 (Array.getElem?_eq_some_iff.1 h10').1 (Ne.symm hgne2) (Ne.symm hgne2)).trans h10'
            have h73 := (hbt.block b7 (Array.getElem?_eq_some_iff.1 h72).1 (Ne.symm hgne) (Ne.symm hgne)).trans h72
            have hT3 := br_of_block hT2 (fun gg e => hbt.block gg (Kd.R_lt hT2 gg e) (by simp [Value.ownBlock] at e; omega) (by simp [Value.ownBlock] at e; omega))
            have hB3 := But.below hB2 hbt hB2.size hg1 hg1
            have e0 : wr.cell? ⟨g10, 0, none⟩ = some (.int .i64 na) := by simp [World.cell?, h10]
            have e1 : wr.cell? ⟨g10, 1, none⟩ = some (.int .i64 nc) := by simp [World.cell?, h10]
            clear h10' h72 hT2 hB2 hbt
            by_cases hmn : (na : Int) + nc < n
            · by_cases hmx : (108 : Int) < na
              · have hbase3 := hB3.size
                have htl := hI.out.1
                have hg10l : g10 < wr.heap.size := (Array.getElem?_eq_some_iff.1 h10).1
                have hb7l : b7 < wr.heap.size := (Array.getElem?_eq_some_iff.1 h73).1
                have hgl3 := Kd.R_lt hG g rfl
                obtain ⟨a0, ha0⟩ : ∃ a0, na - 108 = a0 := ⟨_, rfl⟩
                obtain ⟨en, hen⟩ : ∃ en, min n (na + nc) = en := ⟨_, rfl⟩
                go_wp2
                obtain ⟨wo, hwo⟩ : ∃ wo : World, wo = wr := ⟨_, rfl⟩
                rw [← hwo] at hG h10 h73 hT3 hB3 e0 e1 hg10l hb7l hgl3 hbase3 ⊢
                clear hwo
                go_loopw [12] (fun v wr3 => ∃ f : Nat, a0 ≤ f ∧ (f ≤ en ∨ f = a0) ∧ v = .int .i64 f ∧ BR wr3 (b7 + 1) (.slice (some ⟨tt, 0, none⟩) n ct) (setS tl a0 (f - a0)) ∧ But tt tt wo wr3) (fun v _ => en - (intOf v).toNat)
                case atStart => exact ⟨a0, Nat.le_refl _, .inr rfl, by rw [← ha0]; congr 1; omega, by rw [Nat.sub_self, setS_zero]; exact hT3, But.refl _ _ _⟩
                clear hT3
                case round =>
                  obtain ⟨f, hf0, hf1, rfl, hT, hbt⟩ := hrel
                  have e0' := hbt.cell e0 (show g10 ≠ tt by omega) (show g10 ≠ tt by omega)
                  have e1' := hbt.cell e1 (show g10 ≠ tt by omega) (show g10 ≠ tt by omega)
                  by_cases hfe : f < en
                  · have hfn : f < n := by omega
                    obtain ⟨hx, hxf⟩ := br_cell hT f hfn
                    have hput := br_put hT f true
                    have HSET := Lib.hid (setS_succ tl a0 (f - a0) (by omega))
                    rw [show a0 + (f - a0) = f by omega, show f - a0 + 1 = f + 1 - a0 by omega] at HSET
                    have hlt5 : (f : Int) < na + nc := by omega
                    go_wp2
                    go_roundw
                    case rel => exact ⟨f + 1, by omega, .inl (by omega), by go_num, by rw [← HSET.out]; exact hput, hbt.set rfl _⟩
                    case measure => simp [intOf]; omega
                  · have hmin : en = min n (na + nc) := hen.symm
                    have hlt5 : (na : Int) + nc ≤ f := by omega
                    have hG4 := br_of_block hG (fun gg e => hbt.block gg (Kd.R_lt hG gg e) (by simp [Value.ownBlock] at e; omega) (by simp [Value.ownBlock] at e; omega))
                    have h74 := (hbt.block b7 hb7l (by omega) (by omega)).trans h73
                    have hB4 := But.below hB3 hbt hbase3 (show w.heap.size ≤ tt by omega) (show w.heap.size ≤ tt by omega)
                    have HI4 : Hid (InvT (setS G na nc) (setS tl a0 (f - a0)) n) := Lib.hid (inv_step hI.out ha0.symm (by omega))
                    have HF4 : Hid (∀ j (h : j < l.length), j < k + 1 → fitsS (l[j]).1 (l[j]).2 (n + 108) = true) := Lib.hid (fun j h hj => by
                      by_cases e : j = k
                      · subst e; rw [HXP.out]; exact HBF.out
                      · exact hF.out j h (by omega))
                    clear hG h73 hB3 hbt hI hF e0 e1
                    go_wp2
                    go_roundw
                    case rel => exact ⟨k + 1, _, by omega, by go_num, by rw [HGS.out]; exact hG4, hT, by rw [HGS.out]; exact HI4, h74, HF4, hB4⟩
                    case measure => simp [intOf]; omega
              · have hbase3 := hB3.size
                have htl := hI.out.1
                have hg10l : g10 < wr.heap.size := (Array.getElem?_eq_some_iff.1 h10).1
                have hb7l : b7 < wr.heap.size := (Array.getElem?_eq_some_iff.1 h73).1
                have hgl3 := Kd.R_lt hG g rfl
                obtain ⟨a0, ha0⟩ : ∃ a0, na - 108 = a0 := ⟨_, rfl⟩
                obtain ⟨en, hen⟩ : ∃ en, min n (na + nc) = en := ⟨_, rfl⟩
                go_wp2
                obtain ⟨wo, hwo⟩ : ∃ wo : World, wo = wr := ⟨_, rfl⟩
                rw [← hwo] at hG h10 h73 hT3 hB3 e0 e1 hg10l hb7l hgl3 hbase3 ⊢
                clear hwo
                go_loopw [12] (fun v wr3 => ∃ f : Nat, a0 ≤ f ∧ (f ≤ en ∨ f = a0) ∧ v = .int .i64 f ∧ BR wr3 (b7 + 1) (.slice (some ⟨tt, 0, none⟩) n ct) (setS tl a0 (f - a0)) ∧ But tt tt wo wr3) (fun v _ => en - (intOf v).toNat)
                case atStart => exact ⟨a0, Nat.le_refl _, .inr rfl, by rw [← ha0]; congr 1; omega, by rw [Nat.sub_self, setS_zero]; exact hT3, But.refl _ _ _⟩
                clear hT3
                case round =>
                  obtain ⟨f, hf0, hf1, rfl, hT, hbt⟩ := hrel
                  have e0' := hbt.cell e0 (show g10 ≠ tt by omega) (show g10 ≠ tt by omega)
                  have e1' := hbt.cell e1 (show g10 ≠ tt by omega) (show g10 ≠ tt by omega)
                  by_cases hfe : f < en
                  · have hfn : f < n := by omega
                    obtain ⟨hx, hxf⟩ := br_cell hT f hfn
                    have hput := br_put hT f true
                    have HSET := Lib.hid (setS_succ tl a0 (f - a0) (by omega))
                    rw [show a0 + (f - a0) = f by omega, show f - a0 + 1 = f + 1 - a0 by omega] at HSET
                    have hlt5 : (f : Int) < na + nc := by omega
                    go_wp2
                    go_roundw
                    case rel => exact ⟨f + 1, by omega, .inl (by omega), by go_num, by rw [← HSET.out]; exact hput, hbt.set rfl _⟩
                    case measure => simp [intOf]; omega
                  · have hmin : en = min n (na + nc) := hen.symm
                    have hlt5 : (na : Int) + nc ≤ f := by omega
                    have hG4 := br_of_block hG (fun gg e => hbt.block gg (Kd.R_lt hG gg e) (by simp [Value.ownBlock] at e; omega) (by simp [Value.ownBlock] at e; omega))
                    have h74 := (hbt.block b7 hb7l (by omega) (by omega)).trans h73
                    have hB4 := But.below hB3 hbt hbase3 (show w.heap.size ≤ tt by omega) (show w.heap.size ≤ tt by omega)
                    have HI4 : Hid (InvT (setS G na nc) (setS tl a0 (f - a0)) n) := Lib.hid (inv_step hI.out ha0.symm (by omega))
                    have HF4 : Hid (∀ j (h : j < l.length), j < k + 1 → fitsS (l[j]).1 (l[j]).2 (n + 108) = true) := Lib.hid (fun j h hj => by
                      by_cases e : j = k
                      · subst e; rw [HXP.out]; exact HBF.out
                      · exact hF.out j h (by omega))
                    clear hG h73 hB3 hbt hI hF e0 e1
                    go_wp2
                    go_roundw
                    case rel => exact ⟨k + 1, _, by omega, by go_num, by rw [HGS.out]; exact hG4, hT, by rw [HGS.out]; exact HI4, h74, HF4, hB4⟩
                    case measure => simp [intOf]; omega
            · by_cases hmx : (108 : Int) < na
              · have hbase3 := hB3.size
                have htl := hI.out.1
                have hg10l : g10 < wr.heap.size := (Array.getElem?_eq_some_iff.1 h10).1
                have hb7l : b7 < wr.heap.size := (Array.getElem?_eq_some_iff.1 h73).1
                have hgl3 := Kd.R_lt hG g rfl
                obtain ⟨a0, ha0⟩ : ∃ a0, na - 108 = a0 := ⟨_, rfl⟩
                obtain ⟨en, hen⟩ : ∃ en, min n (na + nc) = en := ⟨_, rfl⟩
                go_wp2
                obtain ⟨wo, hwo⟩ : ∃ wo : World, wo = wr := ⟨_, rfl⟩
                rw [← hwo] at hG h10 h73 hT3 hB3 e0 e1 hg10l hb7l hgl3 hbase3 ⊢
                clear hwo
                go_loopw [12] (fun v wr3 => ∃ f : Nat, a0 ≤ f ∧ (f ≤ en ∨ f = a0) ∧ v = .int .i64 f ∧ BR wr3 (b7 + 1) (.slice (some ⟨tt, 0, none⟩) n ct) (setS tl a0 (f - a0)) ∧ But tt tt wo wr3) (fun v _ => en - (intOf v).toNat)
                case atStart => exact ⟨a0, Nat.le_refl _, .inr rfl, by rw [← ha0]; congr 1; omega, by rw [Nat.sub_self, setS_zero]; exact hT3, But.refl _ _ _⟩
                clear hT3
                case round =>
                  obtain ⟨f, hf0, hf1, rfl, hT, hbt⟩ := hrel
                  have e0' := hbt.cell e0 (show g10 ≠ tt by omega) (show g10 ≠ tt by omega)
                  have e1' := hbt.cell e1 (show g10 ≠ tt by omega) (show g10 ≠ tt by omega)
                  by_cases hfe : f < en
                  · have hfn : f < n := by omega
                    obtain ⟨hx, hxf⟩ := br_cell hT f hfn
                    have hput := br_put hT f true
                    have HSET := Lib.hid (setS_succ tl a0 (f - a0) (by omega))
                    rw [show a0 + (f - a0) = f by omega, show f - a0 + 1 = f + 1 - a0 by omega] at HSET
                    have hlt5 : (f : Int) < n := by omega
                    go_wp2
                    go_roundw
                    case rel => exact ⟨f + 1, by omega, .inl (by omega), by go_num, by rw [← HSET.out]; exact hput, hbt.set rfl _⟩
                    case measure => simp [intOf]; omega
                  · have hmin : en = min n (na + nc) := hen.symm
                    have hlt5 : (n : Int) ≤ f := by omega
                    have hG4 := br_of_block hG (fun gg e => hbt.block gg (Kd.R_lt hG gg e) (by simp [Value.ownBlock] at e; omega) (by simp [Value.ownBlock] at e; omega))
                    have h74 := (hbt.block b7 hb7l (by omega) (by omega)).trans h73
                    have hB4 := But.below hB3 hbt hbase3 (show w.heap.size ≤ tt by omega) (show w.heap.size ≤ tt by omega)
                    have HI4 : Hid (InvT (setS G na nc) (setS tl a0 (f - a0)) n) := Lib.hid (inv_step hI.out ha0.symm (by omega))
                    have HF4 : Hid (∀ j (h : j < l.length), j < k + 1 → fitsS (l[j]).1 (l[j]).2 (n + 108) = true) := Lib.hid (fun j h hj => by
                      by_cases e : j = k
                      · subst e; rw [HXP.out]; exact HBF.out
                      · exact hF.out j h (by omega))
                    clear hG h73 hB3 hbt hI hF e0 e1
                    go_wp2
                    go_roundw
                    case rel => exact ⟨k + 1, _, by omega, by go_num, by rw [HGS.out]; exact hG4, hT, by rw [HGS.out]; exact HI4, h74, HF4, hB4⟩
                    case measure => simp [intOf]; omega
              · have hbase3 := hB3.size
                have htl := hI.out.1
                have hg10l : g10 < wr.heap.size := (Array.getElem?_eq_some_iff.1 h10).1
                have hb7l : b7 < wr.heap.size := (Array.getElem?_eq_some_iff.1 h73).1
                have hgl3 := Kd.R_lt hG g rfl
                obtain ⟨a0, ha0⟩ : ∃ a0, na - 108 = a0 := ⟨_, rfl⟩
                obtain ⟨en, hen⟩ : ∃ en, min n (na + nc) = en := ⟨_, rfl⟩
                go_wp2
                obtain ⟨wo, hwo⟩ : ∃ wo : World, wo = wr := ⟨_, rfl⟩
                rw [← hwo] at hG h10 h73 hT3 hB3 e0 e1 hg10l hb7l hgl3 hbase3 ⊢
                clear hwo
                go_loopw [12] (fun v wr3 => ∃ f : Nat, a0 ≤ f ∧ (f ≤ en ∨ f = a0) ∧ v = .int .i64 f ∧ BR wr3 (b7 + 1) (.slice (some ⟨tt, 0, none⟩) n ct) (setS tl a0 (f - a0)) ∧ But tt tt wo wr3) (fun v _ => en - (intOf v).toNat)
                case atStart => exact ⟨a0, Nat.le_refl _, .inr rfl, by rw [← ha0]; congr 1; omega, by rw [Nat.sub_self, setS_zero]; exact hT3, But.refl _ _ _⟩
                clear hT3
                case round =>
                  obtain ⟨f, hf0, hf1, rfl, hT, hbt⟩ := hrel
                  have e0' := hbt.cell e0 (show g10 ≠ tt by omega) (show g10 ≠ tt by omega)
                  have e1' := hbt.cell e1 (show g10 ≠ tt by omega) (show g10 ≠ tt by omega)
                  by_cases hfe : f < en
                  · have hfn : f < n := by omega
                    obtain ⟨hx, hxf⟩ := br_cell hT f hfn
                    have hput := br_put hT f true
                    have HSET := Lib.hid (setS_succ tl a0 (f - a0) (by omega))
                    rw [show a0 + (f - a0) = f by omega, show f - a0 + 1 = f + 1 - a0 by omega] at HSET
                    have hlt5 : (f : Int) < n := by omega
                    go_wp2
                    go_roundw
                    case rel => exact ⟨f + 1, by omega, .inl (by omega), by go_num, by rw [← HSET.out]; exact hput, hbt.set rfl _⟩
                    case measure => simp [intOf]; omega
                  · have hmin : en = min n (na + nc) := hen.symm
                    have hlt5 : (n : Int) ≤ f := by omega
                    have hG4 := br_of_block hG (fun gg e => hbt.block gg (Kd.R_lt hG gg e) (by simp [Value.ownBlock] at e; omega) (by simp [Value.ownBlock] at e; omega))
                    have h74 := (hbt.block b7 hb7l (by omega) (by omega)).trans h73
                    have hB4 := But.below hB3 hbt hbase3 (show w.heap.size ≤ tt by omega) (show w.heap.size ≤ tt by omega)
                    have HI4 : Hid (InvT (setS G na nc) (setS tl a0 (f - a0)) n) := Lib.hid (inv_step hI.out ha0.symm (by omega))
                    have HF4 : Hid (∀ j (h : j < l.length), j < k + 1 → fitsS (l[j]).1 (l[j]).2 (n + 108) = true) := Lib.hid (fun j h hj => by
                      by_cases e : j = k
                      · subst e; rw [HXP.out]; exact HBF.out
                      · exact hF.out j h (by omega))
                    clear hG h73 hB3 hbt hI hF e0 e1
                    go_wp2
                    go_roundw
                    case rel => exact ⟨k + 1, _, by omega, by go_num, by rw [HGS.out]; exact hG4, hT, by rw [HGS.out]; exact HI4, h74, HF4, hB4⟩
                    case measure => simp [intOf]; omega
    · obtain rfl : k = m := by omega
      have hgn := goneS_length l (n + 108) k
      obtain ⟨gn, hgne⟩ : ∃ gn, goneS l (n + 108) k = gn := ⟨_, rfl⟩
      rw [hgne] at hG hI hgn
      have HGN := Lib.hid hgne
      have hglt := Kd.R_lt hG g rfl
      have hb7l := (Array.getElem?_eq_some_iff.1 h7).1
      have htl := hI.out.1
      have hbase := hB.size
      have hgn7 : g ≠ b7 := by omega
      obtain ⟨wo, hwo⟩ : ∃ wo : World, wo = wr := ⟨_, rfl⟩
      rw [← hwo] at hG hT h7 hB hglt hb7l hbase ⊢
      clear hwo hgne
      have HALL : Hid (allFit l (n + 108) = true) := Lib.hid (by
        unfold allFit
        rw [List.all_eq_true]
        intro s hs
        obtain ⟨j, hj, rfl⟩ := List.getElem_of_mem hs
        exact hF.out j hj (by rw [← HM.out]; exact hj))
      go_wp2
      go_loopw [13, 68] (fun v i wr => ∃ f : Nat, f ≤ n ∧ i = .int .i64 f ∧ IR .i64 3 wr wo.heap.size v (lostS gn f) ∧ Below wo.heap.size wo wr) (fun _ i _ => n - (intOf i).toNat)
      case atStart => exact ⟨0, by omega, rfl, ir_nil _ _ _ _, Below.refl _ _⟩
      case round =>
        obtain ⟨f, hf, rfl, hO, hb⟩ := hrel
        by_cases hfn : f < n
        · have hT1 := Kd.R_below hT hb
          obtain ⟨hx, -⟩ := br_cell hT1 f hfn
          have HLS := Lib.hid (lostS_succ gn f)
          obtain ⟨x, hxx⟩ : ∃ x, tl.getD f false = x := ⟨_, rfl⟩
          rw [hxx] at hx
          cases x with
          | false =>
            have HN : Hid (lostF gn f = []) := Lib.hid (lostF_none gn f (hI.out.2 f hfn hxx))
            clear hxx
            go_wp2
            go_roundw
            case rel => exact ⟨f + 1, by omega, by go_num, by rw [HLS.out, HN.out, List.append_nil]; exact hO, hb⟩
            case measure => simp [intOf]; omega
          | true =>
            have hG1 := Kd.R_below hG hb
            have h71 := (hb.block b7 hb7l).trans h7
            have hbs := hb.size
            obtain ⟨B15, hB15⟩ : ∃ B15, wr.heap.size = B15 := ⟨_, rfl⟩
            have hbA : Below wr.heap.size wr (wr.alloc (.cells #[.slice none 0 0] 30)) := (Below.refl _ _).alloc (Nat.le_refl _) _
            have h15 : (wr.alloc (.cells #[.slice none 0 0] 30)).heap[B15]? = some (.cells #[.slice none 0 0] 30 (0, 0)) := by rw [← hB15]; exact (MapKept.heap_alloc wr _).1
            have hGA := br_all (Kd.R_below hG1 hbA)
            have h7A := (hbA.block b7 (by omega)).trans h71
            have c7A : (wr.alloc (.cells #[.slice none 0 0] 30)).cell? ⟨b7, 0, none⟩ = some (.slice (some ⟨g, 0, none⟩) (n + 108) cg) := by simp [World.cell?, h7A]
            clear hxx hG1 h71 hT1
            go_wp2_with fail
            refine (collect_any f b7 B15 g (n + 108) cg gn _ c7A (by omega) (by omega) hGA h15 (by omega) (by omega)).mono ?_
            rintro e y1 ⟨rfl, v1, h15', hE, hbt⟩
            have hsA : (wr.alloc (.cells #[.slice none 0 0] 30)).heap.size = B15 + 1 := by simp [hB15]
            rw [hsA] at hE
            have hb2 : Below wr.heap.size wr y1 := But.below hbA hbt hbA.size (by omega) (by omega)
            have hO2 := ir_below hO hb2
            have HO2 : Hid ((Kd.int .i64).R 3 y1 wo.heap.size (fun q => q < B15) u13 (lostS gn f)) := Lib.hid (Kd.R_mono (Kd.R_below (Kd.R_bound hO) hb2) (fun q hq => by have := hq.2.2.1; omega))
            have hb3 := below_step hb hb2
            obtain ⟨er, her⟩ : ∃ er, erS gn f 28 = er := ⟨_, rfl⟩
            have hel := erS_length gn f 28
            have herr := er_range gn f 28
            rw [her] at hE hel herr
            have HER := Lib.hid herr
            have HE28 := Lib.hid her
            obtain ⟨L, hL⟩ : ∃ L, er.length = L := ⟨_, rfl⟩
            obtain ⟨A15, d15, rfl, hd15⟩ := ir_slice hE hL
            have HEL := Lib.hid hL
            have c15 : y1.cell? ⟨B15, 0, none⟩ = some (.slice A15 L d15) := by simp [World.cell?, h15']
            clear hbA hGA h7A c7A h15 hbt hO hO2 hb hb2 her herr hL hx
            have hb15l : B15 < y1.heap.size := (Array.getElem?_eq_some_iff.1 h15').1
            have hAl : Hid (∀ a, A15 = some a → B15 + 1 ≤ a.block ∧ a.block < y1.heap.size) := Lib.hid (fun a e => ⟨Kd.R_base hE a.block (by rw [e]; rfl), Kd.R_lt hE a.block (by rw [e]; rfl)⟩)
            have hCE := (ir_ic hE).2.2
            have hR0 : Hid ((Kd.int .i64).R 3 y1 wo.heap.size (fun q => q ≠ B15 ∧ ∀ a, A15 = some a → q ≠ a.block) u13 (lostS gn f ++ lostP er f 0)) := Lib.hid (by
              have e0 : lostP er f 0 = [] := rfl
              rw [e0, List.append_nil]
              exact Kd.R_mono HO2.out (fun q hq => ⟨by omega, fun a e => by have := (hAl.out a e).1; omega⟩))
            have hsl := lostS_length gn f
            have hbs3 := hb3.size
            clear hE HO2 hsA
            go_wp2
            go_loopw [13, 81] (fun v i wr2 => ∃ j : Nat, j ≤ L ∧ i = .int .i64 j ∧ (Kd.int .i64).R 3 wr2 wo.heap.size (fun q => q ≠ B15 ∧ ∀ a, A15 = some a → q ≠ a.block) v (lostS gn f ++ lostP er f j) ∧ wr2.heap[B15]? = some (.cells #[.slice A15 L d15] 30 (0, 0)) ∧ IC .i64 wr2 A15 er ∧ Below wo.heap.size wo wr2 ∧ y1.heap.size ≤ wr2.heap.size) (fun _ i _ => L - (intOf i).toNat)
            case atStart => exact ⟨0, by omega, rfl, hR0.out, h15', hCE, hb3, Nat.le_refl _⟩
            clear hR0 h15' hCE hb3 c15
            case round =>
              obtain ⟨j, hj, rfl, hR, h15, hC, hbw, hsz⟩ := hrel
              by_cases hjl : j < L
              · have hjl' : j < er.length := by rw [HEL.out]; exact hjl
                obtain ⟨ad, rfl, hcell⟩ := ic_cell hC j hjl'
                have hyr := HER.out _ (rd_in hjl')
                have hps := lostP_succ er f j hjl'
                have hpl := lostP_le er f j
                obtain ⟨y, hy⟩ : ∃ y, rd er j = y := ⟨_, rfl⟩
                rw [hy] at hcell hyr hps
                rw [HEL.out] at hps
                obtain ⟨Z, hZ⟩ : ∃ Z, lostS gn f ++ lostP er f j = Z := ⟨_, rfl⟩
                have hZl : Z.length ≤ 28 * f + 28 := by rw [← hZ, List.length_append]; omega
                have HPS : Hid (lostS gn f ++ lostP er f (j + 1) = Z ++ (if 4 < L ∧ y < 24 then [24 * (f : Int) + y] else [])) := Lib.hid (by rw [hps, ← List.append_assoc, hZ])
                rw [hZ] at hR
                have y0 := hyr.1
                have y28 := hyr.2
                have c15 : wr.cell? ⟨B15, 0, none⟩ = some (.slice (some ad) L d15) := by simp [World.cell?, h15]
                have hbw2 := hbw.size
                clear hy hyr hps hZ hpl
                by_cases h4 : 4 < L
                · by_cases h24 : y < 24
                  · rw [if_pos ⟨h4, h24⟩] at HPS
                    go_wp2_with (at_builtin; refine Kd.R_append (Kd.int .i64) (w0 := wo) wo.heap.size rfl _ _ 30 3 (.int .i64 0) 8 rfl Try.underlying30 info_int rfl (by decide) (by decide) u13 Z (24 * (f : Int) + y) [.int .i64 (24 * (f : Int) + y)] (fun q => q ≠ B15 ∧ ∀ a, some ad = some a → q ≠ a.block) (fun _ => False) rfl rfl rfl (fun _ h => h.elim) (fun q hq => ⟨by omega, fun a e => by have := (hAl.out a e).2; omega⟩) hR hbw hbw2 (by omega) ?_; intro v7 y7 hR7 hb7' hg7 hat7; have h157 := (hg7.block B15 (by omega) (Kd.R_away hR (fun q hq => hq.1))).trans h15; have hC7 := ic_of_block hC (fun a e => hg7.block a.block (by have := (hAl.out a e).2; omega) (Kd.R_away hR (fun q hq => hq.2 a e))); have hz7 := hg7.size; have HR7 := Lib.hid hR7; clear hR7 hg7 hat7)
                    go_roundw
                    case rel => exact ⟨j + 1, by omega, by go_num, by rw [HPS.out]; exact HR7.out, h157, hC7, hb7', by omega⟩
                    case measure => simp [intOf]; omega
                  · rw [if_neg (fun h => h24 h.2), List.append_nil] at HPS
                    have d24 : decide (y < 24) = false := by simpa using h24
                    go_wp2
                    go_roundw
                    case rel => exact ⟨j + 1, by omega, by go_num, by rw [HPS.out]; exact hR, h15, hC, hbw, hsz⟩
                    case measure => simp [intOf]; omega
                · rw [if_neg (fun h => h4 h.1), List.append_nil] at HPS
                  have d4 : decide (4 < (L : Int)) = false := by simp; omega
                  go_wp2
                  go_roundw
                  case rel => exact ⟨j + 1, by omega, by go_num, by rw [HPS.out]; exact hR, h15, hC, hbw, hsz⟩
                  case measure => simp [intOf]; omega
              · obtain rfl : L = j := by omega
                have HFF : Hid (lostS gn (f + 1) = lostS gn f ++ lostP er f L) := Lib.hid (by rw [HLS.out]; unfold lostF; rw [HE28.out, HEL.out])
                go_wp2
                go_roundw
                case rel => exact ⟨f + 1, by omega, by go_num, by rw [HFF.out]; exact Kd.R_mono hR (fun _ _ => trivial), hbw⟩
                case measure => simp [intOf]; omega
        · obtain rfl : f = n := by omega
          go_wp2
          go_ret2
          refine ⟨below_step hB hb, .inr ⟨HALL.out, _, rfl, ?_⟩⟩
          rw [HGN.out]
          exact Kd.R_lower hO hbase
end Go.Proofs.Ytfkfdaammlffmaa
