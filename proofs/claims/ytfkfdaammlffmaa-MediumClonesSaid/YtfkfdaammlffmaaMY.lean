import Derived.Test.YtfkfdaammlffmaaMX
/-! Clean, walked; Read and Clean of a sector that there is not. -/
namespace Go.Proofs.Ytfkfdaammlffmaa
set_option linter.unusedVariables false
set_option linter.unusedSimpArgs false
open Go.RowKit Go.Proofs
open Go.Proofs.YtfkfdaammlffmaaW.PrintWords

theorem read_out {w : World} {base t g cap : Nat} {kd en : Int} {S : List Sf} {sv lv : Value} (h : MB w base t g cap kd en S sv lv) (hS : S.length ≤ 4096) (i : Int) (hi : ¬ (0 ≤ i ∧ i < S.length)) :
    Calls Try.prog 15 #[.pointer (some ⟨t, 0, none⟩), .int .i64 i] w fun e w' => e = .returned (.tuple #[.string ByteArray.empty, .slice none 0 0, .int .i64 2]) ∧ Below w.heap.size w w' := by
  have KH := has_out h hS i hi
  clear hi
  go_enter Try.func15, Try.ntmps15
  go_wp2_with fail
  refine KH.mono ?_
  rintro e w1 ⟨rfl, hb⟩
  clear KH
  go_wp2
  exact bodyPost_ret (v := .tuple #[.string ⟨#[]⟩, .slice none 0 0, .int .i64 2]) (by simp [results, Try.results15, go_sem]) rfl ⟨rfl, hb⟩
theorem clean_out {w : World} {base t g cap : Nat} {kd en : Int} {S : List Sf} {sv lv : Value} (h : MB w base t g cap kd en S sv lv) (hS : S.length ≤ 4096) (i : Int) (hi : ¬ (0 ≤ i ∧ i < S.length)) :
    Calls Try.prog 14 #[.pointer (some ⟨t, 0, none⟩), .int .i64 i] w fun e w' => e = .returned (.bool false) ∧ Below w.heap.size w w' := by
  have KH := has_out h hS i hi
  clear hi
  go_enter Try.func14, Try.ntmps14
  go_wp2_with fail
  refine KH.mono ?_
  rintro e w1 ⟨rfl, hb⟩
  clear KH
  go_wp2
  go_ret
  exact ⟨rfl, hb⟩

def cleanT (st : Int) (lc : PL) (gn : List Int) : Bool := decide (st = 1) && gn.isEmpty && lc.all (fun x => x.2 == 0)
set_option maxRecDepth 100000 in
set_option maxHeartbeats 2000000 in
theorem clean_in {w : World} {base t g cap : Nat} {kd en : Int} {S : List Sf} {sv lv : Value} {offs : List Int} (h : MB w base t g cap kd en S sv lv) (hS : S.length ≤ 4096) (hL : LM w base lv offs) (hoL : offs.length ≤ 20000000) (k : Nat) (s : Sf) (hs : S[k]? = some s)
    (le lc : PL) (hle : HasSet w s.er le) (hlc : HasMap w s.ch lc) (hok : OffOk le) (hll : le.length ≤ 100000) (b : Bool) (hb : cleanT s.st lc (goneL le offs k) = b) :
    Calls Try.prog 14 #[.pointer (some ⟨t, 0, none⟩), .int .i64 k] w fun e w' => e = .returned (.bool b) ∧ Below w.heap.size w w' := by
  have hk : k < S.length := (List.getElem?_eq_some_iff.1 hs).1
  obtain ⟨G, hG⟩ : ∃ G, goneL le offs k = G := ⟨_, rfl⟩
  have HG := Lib.hid hG
  rw [hG] at hb
  clear hG
  have KH := has_in h hS k ⟨by omega, by omega⟩
  have HSE := Lib.hid hs
  have HB := Lib.hid hb
  have HOK := Lib.hid hok
  have hsrt := hlc.srt
  have hk0 : (0 : Int) ≤ k := by omega
  have hk1 : (k : Int) < S.length := by omega
  have hz1 : S.length ≤ 9223372036854775807 := by omega
  clear hs hb hok
  go_enter Try.func14, Try.ntmps14
  go_wp2_with fail
  refine KH.mono ?_
  rintro e w1 ⟨rfl, hb⟩
  have h1 := h.below hb
  have hL1 := hL.below hb
  have hle1 := hle.below hb
  have hlc1 := hlc.below hb
  obtain ⟨c0, c1, c2, c3, c4⟩ := h1.cells
  obtain ⟨s', hs', d0, d1, d2, d3, d4, df⟩ := sf_cells h1.row k hk
  rw [HSE.out] at hs'
  obtain rfl := Option.some.inj hs'
  obtain ⟨st, ct, raw, er, ch⟩ := s
  simp only at d0 d1 d2 d3 d4 hle1 hlc1 HB hle hlc
  have herd : (S.getD k sf0).er = er := by rw [List.getD_eq_getElem?_getD, HSE.out]; rfl
  have HER := Lib.hid herd
  clear KH hs' df hle hlc hL h herd
  by_cases hst : st = 1
  · have q1 : (st != 1) = false := by simp [hst]
    have HST := Lib.hid hst
    clear hst
    go_wp2_with fail
    refine (erased_any h1 hS hL1 hoL k hk er HER.out le hle1 HOK.out hll).mono ?_
    rw [HG.out]
    rintro e w2 ⟨v2, rfl, hR2, hb2⟩
    obtain ⟨n, hn⟩ : ∃ n, G.length = n := ⟨_, rfl⟩
    have HN := Lib.hid hn
    obtain ⟨A2, c2', rfl, -⟩ := ir_slice hR2 hn
    have hb3 := below_step hb hb2
    have h2 := h1.below hb2
    have hlc2 := hlc1.below hb2
    clear hn c0 c1 c2 c3 c4 d0 d1 d2 d3 d4 h1 hL1 hle1 hlc1 hR2
    rcases Nat.eq_zero_or_pos n with h0 | h0
    · subst h0
      have HE : Hid (G = []) := Lib.hid (List.eq_nil_of_length_eq_zero HN.out)
      obtain ⟨c0, c1, c2, c3, c4⟩ := h2.cells
      obtain ⟨s', hs', d0, d1, d2, d3, d4, df⟩ := sf_cells h2.row k hk
      rw [HSE.out] at hs'
      obtain rfl := Option.some.inj hs'
      simp only at d0 d1 d2 d3 d4
      clear hs' df
      go_wp2_with (at_range; refine ro_range _ rfl _ rfl ch lc rfl hlc2 ?_; intro w4 cnt0 hr4 hg4 hs4)
      go_frame
      obtain ⟨rb, hrb⟩ : ∃ rb, w2.heap.size = rb := ⟨_, rfl⟩
      have hrw : w.heap.size ≤ rb := by rw [← hrb]; exact hb3.size
      have hb4 : Below w.heap.size w w4 := hb3.grown hg4 hb3.size (fun j e => by cases e)
      rw [hrb] at hr4 ⊢
      clear hrb c0 c1 c2 c3 c4 d0 d1 d2 d3 d4 h2 hlc2 hg4 hs4 hb3 hb2 hb
      go_loopw [6] (fun _ wr => ∃ (rem : PL) (cnt : Nat), RO wr ch rb lc rem cnt ∧ Hid (∀ x ∈ rem, x ∈ lc) ∧ Hid (∀ x ∈ lc, x ∉ rem → x.2 = 0) ∧ Below w.heap.size w wr) (fun _ wr => roLeft wr ch rb)
      case atStart => exact ⟨lc, cnt0, hr4, Lib.hid (fun x h => h), Lib.hid (fun x h h' => absurd h h'), hb4⟩
      clear hr4 hb4
      case round =>
        obtain ⟨rem, cnt, hr, hsub, hno, hb⟩ := hrel
        go_wp2_with (at_next; refine ro_next _ rfl _ rfl ch rb lc rem cnt rfl hr hsrt hsub.out ?_ ?_)
        · intro hrem
          subst hrem
          have HB1 : Hid (b = true) := Lib.hid (by
            rw [← HB.out, HE.out]
            unfold cleanT
            rw [HST.out]
            have : lc.all (fun x => x.2 == 0) = true := List.all_eq_true.2 (fun x hx => by simpa using hno.out x hx (by simp))
            rw [this]; rfl)
          go_wp2
          go_ret
          exact ⟨by rw [HB1.out] <;> rfl, hb⟩
        · intro x cv w5 cnt5 hwx hwc hmem hr5 hlt hg5 hs5 hen
          have hb5 : Below w.heap.size w w5 := hb.grown hg5 hb.size (fun j e => by injection e with e; omega)
          have hml := hsub.out _ hmem
          by_cases hc : cv = 0
          · have qc : (cv != 0) = false := by simp [hc]
            have HNO : Hid (∀ y ∈ lc, y ∉ strL x rem → y.2 = 0) := Lib.hid (fun y hy hn => by
              by_cases hy2 : y ∈ rem
              · have : y.1 = x := by
                  apply Classical.byContradiction
                  intro hne
                  exact hn (List.mem_filter.2 ⟨hy2, by simpa using hne⟩)
                have e1 := mem_look hsrt hml
                have e2 := mem_look (k := y.1) (v := y.2) hsrt hy
                rw [this, e1] at e2
                have := Option.some.inj e2
                omega
              · exact hno.out y hy hy2)
            clear hc hwx hwc hmem hml hno hg5
            go_wp2
            go_roundw
            case rel => exact ⟨strL x rem, cnt5, hr5, Lib.hid (fun y hy => hsub.out y (List.mem_filter.1 hy).1), HNO, hb5⟩
            case measure => rw [hr.left_eq, hr5.left_eq]; exact hlt
          · have qc : (cv != 0) = true := by simp [hc]
            have HB1 : Hid (b = false) := Lib.hid (by
              rw [← HB.out]
              unfold cleanT
              have : lc.all (fun x => x.2 == 0) = false := by
                rw [List.all_eq_false]
                exact ⟨_, hml, by simpa using hc⟩
              rw [this, Bool.and_false])
            clear hc hwx hwc hmem hml hno hg5
            go_wp2
            go_ret
            exact ⟨by rw [HB1.out] <;> rfl, hb5⟩
    · have HB1 : Hid (b = false) := Lib.hid (by
        rw [← HB.out]
        unfold cleanT
        have : G.isEmpty = false := by
          cases G with
          | nil => exact absurd HN.out (by simp; omega)
          | cons a l => rfl
        rw [this, Bool.and_false, Bool.false_and])
      have h0' : (0 : Int) < n := by omega
      clear h2 hlc2
      go_wp2
      go_ret
      exact ⟨by rw [HB1.out] <;> rfl, hb3⟩
  · have q1 : (st != 1) = true := by simp [hst]
    have HB1 : Hid (b = false) := Lib.hid (by
      rw [← HB.out]
      unfold cleanT
      rw [decide_eq_false hst, Bool.false_and, Bool.false_and])
    clear hst
    go_wp2
    go_ret
    exact ⟨by rw [HB1.out] <;> rfl, hb⟩
end Go.Proofs.Ytfkfdaammlffmaa
