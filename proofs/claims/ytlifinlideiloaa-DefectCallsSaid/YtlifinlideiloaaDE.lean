import Derived.Test.YtlifinlideiloaaDD
/-! The block of a sector. -/
namespace Go.Proofs.Ytlifinlideiloaa
set_option linter.unusedVariables false
set_option linter.unusedSimpArgs false
open Go.RowKit
open Go.Proofs.YtlifinlideiloaaW.PrintWords

/-- the key of a value -/
def valAt (l : PL) (v : Int) : Option Int := (l.find? (fun x => x.2 == v)).map (·.1)
def InjM (l : PL) : Prop := ∀ x ∈ l, ∀ y ∈ l, x.2 = y.2 → x = y
theorem valAt_some {l : PL} (hi : InjM l) {x : Int × Int} (hx : x ∈ l) : valAt l x.2 = some x.1 := by
  unfold valAt
  cases e : l.find? (fun y => y.2 == x.2) with
  | none =>
    have := List.find?_eq_none.1 e x hx
    simp at this
  | some y =>
    have h1 := List.find?_some e
    have h2 := List.mem_of_find?_eq_some e
    have : y = x := hi y h2 x hx (by simpa using h1)
    rw [this]; rfl
theorem valAt_none {l : PL} {v : Int} (h : ∀ x ∈ l, x.2 ≠ v) : valAt l v = none := by
  unfold valAt
  rw [List.find?_eq_none.2 (fun x hx => by simpa using h x hx)]
  rfl
theorem valAt_mem {l : PL} {v k : Int} (h : valAt l v = some k) : (k, v) ∈ l := by
  unfold valAt at h
  cases e : l.find? (fun y => y.2 == v) with
  | none => rw [e] at h; cases h
  | some y =>
    rw [e] at h
    injection h with h
    have h1 := List.find?_some e
    have h2 := List.mem_of_find?_eq_some e
    have : y = (k, v) := by
      obtain ⟨a, b⟩ := y
      simp only at h h1
      simp at h1
      rw [h, h1]
    rw [← this]; exact h2

def atS (T : Tab) (s : Int) : Int := s - (T.P.countP (· < s) : Nat)
def blockS (T : Tab) (s : Int) : Int × Bool :=
  if (T.B : Int) + T.P.length ≤ s then (match valAt T.M (s - ((T.B : Int) + T.P.length)) with | some k => (k, true) | none => (0, false))
  else if T.P.contains s = true ∨ (look T.M (atS T s)).isSome = true ∨ ¬ (0 ≤ atS T s ∧ atS T s < T.B) then (0, false) else (atS T s, true)

set_option maxRecDepth 100000 in
set_option maxHeartbeats 4000000 in
theorem block_hi (t m : Nat) (A : Option Addr) (c : Nat) (T : Tab) (w : World) (h : TB w t m A c T) (hB : T.B ≤ 4096) (hP : T.P.length ≤ 256) (hM : ∀ x ∈ T.M, 0 ≤ x.2 ∧ x.2 ≤ 64) (hi : InjM T.M) (s : Int) (hs : (T.B : Int) + T.P.length ≤ s) :
    Calls Try.prog 14 #[.pointer (some ⟨t, 0, none⟩), .int .i64 s] w fun e w' => e = .returned (.tuple #[.int .i64 (blockS T s).1, .bool (blockS T s).2]) ∧ Below w.heap.size w w' := by
  obtain ⟨f, hf⟩ : ∃ f, f = (T.B : Int) + T.P.length := ⟨_, rfl⟩
  have HB : Hid (blockS T s = (match valAt T.M (s - f) with | some k => (k, true) | none => (0, false))) := Lib.hid (by unfold blockS; rw [if_pos hs, hf])
  have hf1 : 0 ≤ f := by omega
  have hf2 : f ≤ 4352 := by omega
  have hfc : ∀ W, TB W t m A c T → Calls Try.prog 30 #[.pointer (some ⟨t, 0, none⟩)] W fun e w' => e = .returned (.int .i64 f) ∧ ∃ q, w' = W.drewN q := by
    rw [hf]; exact fun W hW => first_any t m A c T W hW hB hP
  rw [← hf] at hs
  clear hf
  have hsrt := im_srt (Maps.int_keyed Try.underlying3) h.map
  have HFC := Lib.hid hfc
  have HM := Lib.hid hM
  have HI := Lib.hid hi
  clear hfc hM hi
  go_enter Try.func14, Try.ntmps14
  go_wp2_with fail
  refine (HFC.out _ h).mono ?_
  rintro e w' ⟨rfl, q, rfl⟩
  have h0 := h.drewN q
  have hb0 : Below w.heap.size w (w.drewN q) := below_drewN (Below.refl _ _) q
  have hsz : (w.drewN q).heap.size = w.heap.size := rfl
  generalize w.drewN q = w0 at h0 hb0 hsz ⊢
  obtain ⟨-, -, -, -, c4⟩ := h0.cells
  go_wp2_with (at_range; refine im_range _ rfl _ 36 rfl 3 3 .i64 Try.underlying3 Try.underlying36 m T.u T.M rfl h0.map ?_; intro w1 cnt0 hr1 hg1 hs1)
  go_frame
  rw [hsz] at hr1 ⊢
  have hb1 : Below w.heap.size w w1 := hb0.grown hg1 (by omega) (fun k e => by cases e)
  clear hg1 hs1 hsz c4 h0 hb0
  go_loopw [22] (fun _ wr => ∃ (rem : PL) (cnt : Nat), MR Try.prog 3 3 .i64 wr m w.heap.size T.u T.M rem cnt ∧ Hid (∀ x ∈ rem, x ∈ T.M) ∧ Hid (∀ x ∈ T.M, x ∉ rem → x.2 ≠ s - f) ∧ Below w.heap.size w wr) (fun _ wr => wr.rangeLeft m w.heap.size)
  case atStart => exact ⟨T.M, cnt0, hr1, Lib.hid (fun x h => h), Lib.hid (fun x h h' => absurd h h'), hb1⟩
  clear hb1 hr1
  case round =>
    obtain ⟨rem, cnt, hr, hsub, hno, hb⟩ := hrel
    go_wp2_with (at_next; refine im_next _ rfl _ rfl 3 3 .i64 Try.underlying3 Try.underlying3 m w.heap.size T.u T.M rem cnt rfl hr hsrt hsub.out ?_ ?_)
    · intro hrem
      subst hrem
      have HV : Hid (valAt T.M (s - f) = none) := Lib.hid (valAt_none (fun x hx => hno.out x hx (by simp)))
      go_wp2
      go_ret2
      exact ⟨by rw [HB.out, HV.out]; rfl, hb⟩
    · intro x cv w2 cnt2 hwx hwc hmem hr2 hlt hg2 hs2 hen
      have hmM := hsub.out _ hmem
      have hcv := HM.out _ hmM
      have hcv1 : 0 ≤ cv := hcv.1
      have hcv2 : cv ≤ 64 := hcv.2
      have hb2 : Below w.heap.size w w2 := hb.grown hg2 hb.size (fun k e => by injection e with e; omega)
      have h2 := h.below hb2
      by_cases hhit : f + cv = s
      · have HV : Hid (valAt T.M (s - f) = some x) := Lib.hid (by have := valAt_some HI.out hmM; simp only at this; rw [← this, show s - f = cv by omega])
        have ehit : (f + cv == s) = true := by simpa using hhit
        clear hhit hcv hg2
        go_wp2_with (go_at_call 30; refine (HFC.out _ h2).mono ?_; rintro e w3 ⟨rfl, q3, rfl⟩)
        go_ret2
        exact ⟨by rw [HB.out, HV.out]; rfl, below_drewN hb2 q3⟩
      · have ehit : (f + cv == s) = false := by simpa using hhit
        clear hcv hg2
        go_wp2_with (go_at_call 30; refine (HFC.out _ h2).mono ?_; rintro e w3 ⟨rfl, q3, rfl⟩)
        go_roundw
        case rel =>
          refine ⟨strL x rem, cnt2, mr_of_block hr2 rfl rfl, Lib.hid (fun y hy => hsub.out y (List.mem_filter.1 hy).1), Lib.hid (fun y hy hn => ?_), below_drewN hb2 q3⟩
          by_cases hy2 : y ∈ rem
          · have : y.1 = x := by
              apply Classical.byContradiction
              intro hne
              exact hn (List.mem_filter.2 ⟨hy2, by simpa using hne⟩)
            have e1 := mem_look hsrt hmM
            have e2 := mem_look (k := y.1) (v := y.2) hsrt hy
            rw [this, e1] at e2
            injection e2 with e2
            omega
          · exact hno.out y hy hy2
        case measure => rw [(mr_of_block (w' := w2.drewN q3) hr2 rfl rfl).left_eq, hr.left_eq]; exact hlt

set_option maxRecDepth 100000 in
set_option maxHeartbeats 4000000 in
theorem block_lo (t m : Nat) (A : Option Addr) (c : Nat) (T : Tab) (w : World) (h : TB w t m A c T) (hB : T.B ≤ 4096) (hP : T.P.length ≤ 256) (hsP : T.P.Pairwise (· ≤ ·)) (s : Int) (hs : s < (T.B : Int) + T.P.length) (hs0 : -1000000 ≤ s) :
    Calls Try.prog 14 #[.pointer (some ⟨t, 0, none⟩), .int .i64 s] w fun e w' => e = .returned (.tuple #[.int .i64 (blockS T s).1, .bool (blockS T s).2]) ∧ Below w.heap.size w w' := by
  obtain ⟨f, hf⟩ : ∃ f, f = (T.B : Int) + T.P.length := ⟨_, rfl⟩
  have hf1 : 0 ≤ f := by omega
  have hf2 : f ≤ 4352 := by omega
  have hfc : ∀ W, TB W t m A c T → Calls Try.prog 30 #[.pointer (some ⟨t, 0, none⟩)] W fun e w' => e = .returned (.int .i64 f) ∧ ∃ q, w' = W.drewN q := by
    rw [hf]; exact fun W hW => first_any t m A c T W hW hB hP
  have HB : Hid (blockS T s = if T.P.contains s = true ∨ (look T.M (atS T s)).isSome = true ∨ ¬ (0 ≤ atS T s ∧ atS T s < T.B) then (0, false) else (atS T s, true)) := Lib.hid (by unfold blockS; rw [if_neg (by omega)])
  rw [← hf] at hs
  clear hf
  have HFC := Lib.hid hfc
  have HSP := Lib.hid hsP
  clear hfc hsP
  obtain ⟨n, hn⟩ : ∃ n : Nat, n = T.P.countP (· < s) := ⟨_, rfl⟩
  have hcn : n ≤ T.P.length := by rw [hn]; exact List.countP_le_length
  have hat : atS T s = s - n := by unfold atS; rw [hn]
  rw [hat] at HB
  have hbs : ∀ W, TB W t m A c T → Calls Try.prog 32 #[.slice A T.P.length c, .int .i64 s] W fun e w' => e = .returned (.tuple #[.int .i64 (n : Int), .bool (T.P.contains s)]) ∧ ∃ q, w' = W.drewN q := by
    rw [hn]; exact fun W hW => bsearch_any A _ c T.P s W hW.row rfl HSP.out (by omega)
  have HBS := Lib.hid hbs
  clear hbs hn hat
  obtain ⟨bad, hbad⟩ : ∃ bad, bad = T.P.contains s := ⟨_, rfl⟩
  rw [← hbad] at HB HBS
  clear hbad
  obtain ⟨mv, hmv⟩ : ∃ mv, (look T.M (s - n)).isSome = mv := ⟨_, rfl⟩
  rw [hmv] at HB
  cases bad with
  | true =>
    replace HB : Hid (blockS T s = (0, false)) := Lib.hid (by rw [HB.out, if_pos (.inl rfl)])
    go_enter Try.func14, Try.ntmps14
    go_wp2_with fail
    refine (HFC.out _ h).mono ?_
    rintro e w' ⟨rfl, q, rfl⟩
    have h0 := h.drewN q
    have hb0 : Below w.heap.size w (w.drewN q) := below_drewN (Below.refl _ _) q
    generalize w.drewN q = w0 at h0 hb0 ⊢
    obtain ⟨-, -, -, c3, -⟩ := h0.cells
    go_wp2_with fail
    refine (HBS.out _ h0).mono ?_
    rintro e w' ⟨rfl, q2, rfl⟩
    replace h0 := h0.drewN q2
    replace hb0 := below_drewN hb0 q2
    generalize w0.drewN q2 = w1 at h0 hb0 ⊢
    obtain ⟨-, -, -, -, c4⟩ := h0.cells
    go_wp2_with (at_lookup; refine im_look_ok _ rfl _ _ 36 rfl 3 3 .i64 Try.underlying3 Try.underlying36 Try.underlying3 (zeroInt _) m T.u T.M rfl h0.map (s - n) rfl (wf_i64 (by omega) (by omega)) ?_)
    go_ret2
    exact ⟨by rw [HB.out]; rfl, hb0⟩
  | false =>
    by_cases hin : 0 ≤ s - n ∧ s - n < T.B
    · have e1 : (decide (0 ≤ s - n) && decide (s - n < T.B)) = true := by rw [decide_eq_true hin.1, decide_eq_true hin.2]; rfl
      cases mv with
      | true =>
        replace HB : Hid (blockS T s = (0, false)) := Lib.hid (by rw [HB.out, if_pos (.inr (.inl rfl))])
        clear hin
        go_enter Try.func14, Try.ntmps14
        go_wp2_with fail
        refine (HFC.out _ h).mono ?_
        rintro e w' ⟨rfl, q, rfl⟩
        have h0 := h.drewN q
        have hb0 : Below w.heap.size w (w.drewN q) := below_drewN (Below.refl _ _) q
        generalize w.drewN q = w0 at h0 hb0 ⊢
        obtain ⟨-, -, -, c3, -⟩ := h0.cells
        go_wp2_with fail
        refine (HBS.out _ h0).mono ?_
        rintro e w' ⟨rfl, q2, rfl⟩
        replace h0 := h0.drewN q2
        replace hb0 := below_drewN hb0 q2
        generalize w0.drewN q2 = w1 at h0 hb0 ⊢
        obtain ⟨-, -, -, -, c4⟩ := h0.cells
        go_wp2_with (at_lookup; refine im_look_ok _ rfl _ _ 36 rfl 3 3 .i64 Try.underlying3 Try.underlying36 Try.underlying3 (zeroInt _) m T.u T.M rfl h0.map (s - n) rfl (wf_i64 (by omega) (by omega)) ?_)
        go_ret2
        exact ⟨by rw [HB.out]; rfl, hb0⟩
      | false =>
        replace HB : Hid (blockS T s = (s - n, true)) := Lib.hid (by rw [HB.out, if_neg (by rintro (h | h | h); cases h; cases h; exact h hin)])
        clear hin
        go_enter Try.func14, Try.ntmps14
        go_wp2_with fail
        refine (HFC.out _ h).mono ?_
        rintro e w' ⟨rfl, q, rfl⟩
        have h0 := h.drewN q
        have hb0 : Below w.heap.size w (w.drewN q) := below_drewN (Below.refl _ _) q
        generalize w.drewN q = w0 at h0 hb0 ⊢
        obtain ⟨-, -, -, c3, -⟩ := h0.cells
        go_wp2_with fail
        refine (HBS.out _ h0).mono ?_
        rintro e w' ⟨rfl, q2, rfl⟩
        replace h0 := h0.drewN q2
        replace hb0 := below_drewN hb0 q2
        generalize w0.drewN q2 = w1 at h0 hb0 ⊢
        obtain ⟨-, -, -, -, c4⟩ := h0.cells
        go_wp2_with (first | (at_lookup; refine im_look_ok _ rfl _ _ 36 rfl 3 3 .i64 Try.underlying3 Try.underlying36 Try.underlying3 (zeroInt _) m T.u T.M rfl h0.map (s - n) rfl (wf_i64 (by omega) (by omega)) ?_) |
          (go_at_call 29; refine (has_any t m A c T _ h0 (s - n)).mono ?_; rw [e1]; rintro e w' ⟨rfl, rfl⟩))
        go_ret2
        exact ⟨by rw [HB.out]; rfl, hb0⟩
    · have e1 : (decide (0 ≤ s - n) && decide (s - n < T.B)) = false := by
        by_cases h0 : 0 ≤ s - n
        · rw [decide_eq_false (fun h => hin ⟨h0, h⟩), Bool.and_false]
        · rw [decide_eq_false h0, Bool.false_and]
      replace HB : Hid (blockS T s = (0, false)) := Lib.hid (by rw [HB.out, if_pos (.inr (.inr hin))])
      clear hin
      cases mv with
      | true =>
        go_enter Try.func14, Try.ntmps14
        go_wp2_with fail
        refine (HFC.out _ h).mono ?_
        rintro e w' ⟨rfl, q, rfl⟩
        have h0 := h.drewN q
        have hb0 : Below w.heap.size w (w.drewN q) := below_drewN (Below.refl _ _) q
        generalize w.drewN q = w0 at h0 hb0 ⊢
        obtain ⟨-, -, -, c3, -⟩ := h0.cells
        go_wp2_with fail
        refine (HBS.out _ h0).mono ?_
        rintro e w' ⟨rfl, q2, rfl⟩
        replace h0 := h0.drewN q2
        replace hb0 := below_drewN hb0 q2
        generalize w0.drewN q2 = w1 at h0 hb0 ⊢
        obtain ⟨-, -, -, -, c4⟩ := h0.cells
        go_wp2_with (at_lookup; refine im_look_ok _ rfl _ _ 36 rfl 3 3 .i64 Try.underlying3 Try.underlying36 Try.underlying3 (zeroInt _) m T.u T.M rfl h0.map (s - n) rfl (wf_i64 (by omega) (by omega)) ?_)
        go_ret2
        exact ⟨by rw [HB.out]; rfl, hb0⟩
      | false =>
        go_enter Try.func14, Try.ntmps14
        go_wp2_with fail
        refine (HFC.out _ h).mono ?_
        rintro e w' ⟨rfl, q, rfl⟩
        have h0 := h.drewN q
        have hb0 : Below w.heap.size w (w.drewN q) := below_drewN (Below.refl _ _) q
        generalize w.drewN q = w0 at h0 hb0 ⊢
        obtain ⟨-, -, -, c3, -⟩ := h0.cells
        go_wp2_with fail
        refine (HBS.out _ h0).mono ?_
        rintro e w' ⟨rfl, q2, rfl⟩
        replace h0 := h0.drewN q2
        replace hb0 := below_drewN hb0 q2
        generalize w0.drewN q2 = w1 at h0 hb0 ⊢
        obtain ⟨-, -, -, -, c4⟩ := h0.cells
        go_wp2_with (first | (at_lookup; refine im_look_ok _ rfl _ _ 36 rfl 3 3 .i64 Try.underlying3 Try.underlying36 Try.underlying3 (zeroInt _) m T.u T.M rfl h0.map (s - n) rfl (wf_i64 (by omega) (by omega)) ?_) |
          (go_at_call 29; refine (has_any t m A c T _ h0 (s - n)).mono ?_; rw [e1]; rintro e w' ⟨rfl, rfl⟩))
        go_ret2
        exact ⟨by rw [HB.out]; rfl, hb0⟩

theorem block_any (t m : Nat) (A : Option Addr) (c : Nat) (T : Tab) (w : World) (h : TB w t m A c T) (hB : T.B ≤ 4096) (hP : T.P.length ≤ 256) (hM : ∀ x ∈ T.M, 0 ≤ x.2 ∧ x.2 ≤ 64) (hi : InjM T.M) (hsP : T.P.Pairwise (· ≤ ·)) (s : Int) (hs0 : -1000000 ≤ s) :
    Calls Try.prog 14 #[.pointer (some ⟨t, 0, none⟩), .int .i64 s] w fun e w' => e = .returned (.tuple #[.int .i64 (blockS T s).1, .bool (blockS T s).2]) ∧ Below w.heap.size w w' := by
  by_cases hs : (T.B : Int) + T.P.length ≤ s
  · exact block_hi t m A c T w h hB hP hM hi s hs
  · exact block_lo t m A c T w h hB hP hsP s (by omega) hs0
end Go.Proofs.Ytlifinlideiloaa
