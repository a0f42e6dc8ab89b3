import Derived.Test.YtlifinlideiloaaDF
/-! Bad, walked. -/
namespace Go.Proofs.Ytlifinlideiloaa
set_option linter.unusedVariables false
set_option linter.unusedSimpArgs false
open Go.RowKit Go.Proofs
open Go.Proofs.YtlifinlideiloaaW.PrintWords

theorem info_int : (Try.prog.info? 3).map (fun i => (i.zero, i.size, i.bytes)) = some (some (.int .i64 0), 1, 8) := by kernel_rfl

theorem primary_any (t m : Nat) (A : Option Addr) (c : Nat) (T : Tab) (w : World) (h : TB w t m A c T) (hP : T.P.length ≤ 256) :
    Calls Try.prog 27 #[.pointer (some ⟨t, 0, none⟩)] w fun e w' => ∃ v, e = .returned v ∧ IR .i64 3 w' w.heap.size v T.P ∧ Below w.heap.size w w' := by
  obtain ⟨-, -, -, c3, -⟩ := h.cells
  go_enter Try.func27, Try.ntmps27
  go_wp2_with (go_at_call 28; refine (clone_any A c T.P _ h.row (by omega)).mono ?_; rintro e w1 ⟨v, rfl, hR, hb⟩)
  go_ret
  exact ⟨_, rfl, hR, hb⟩

set_option maxRecDepth 100000 in
set_option maxHeartbeats 1000000 in
theorem bad_any (t m : Nat) (A : Option Addr) (c : Nat) (T : Tab) (w : World) (h : TB w t m A c T) (hw : WT T) :
    Calls Try.prog 15 #[.pointer (some ⟨t, 0, none⟩)] w fun e w' => ∃ v, e = .returned v ∧ IR .i64 3 w' w.heap.size v (badS T) ∧ Below w.heap.size w w' := by
  have hP := hw.P
  have hBB := hw.B
  have hu64 : T.u ≤ 64 := Nat.le_trans hw.u hw.S
  have hml : T.M.length ≤ 64 := Nat.le_trans hw.len hu64
  have HW := Lib.hid hw
  clear hw
  go_enter Try.func15, Try.ntmps15
  go_wp2_with fail
  refine (primary_any t m A c T _ h hP).mono ?_
  rintro e w0 ⟨v0, rfl, hR0, hb0⟩
  have h0 := h.below hb0
  obtain ⟨-, -, -, -, c4⟩ := h0.cells
  go_wp2_with (at_range; refine im_range _ rfl _ 36 rfl 3 3 .i64 Try.underlying3 Try.underlying36 m T.u T.M rfl h0.map ?_; intro w1 cnt0 hr1 hg1 hs1)
  go_frame
  have hb1 : Below w.heap.size w w1 := hb0.grown hg1 hb0.size (fun k e => by cases e)
  have hR1 := ir_keep hR0 hg1 (fun g e => by simp)
  have hne1 := fun g (e : v0.ownBlock = some g) => Nat.ne_of_lt (Kd.R_lt hR0 g e)
  have hr0 : w.heap.size ≤ w0.heap.size := hb0.size
  have hmt : m < w.heap.size := h.map.lt
  clear hg1 c4 h0 hb0 hR0
  generalize w0.heap.size = r at hr1 hne1 hr0 hs1 ⊢
  clear hs1
  go_loopw [3, 15] (fun v _ wr => ∃ (rem : PL) (cnt : Nat) (xs : List Int), MR Try.prog 3 3 .i64 wr m r T.u T.M rem cnt ∧ Hid (Srt rem ∧ (∀ x ∈ rem, x ∈ T.M)) ∧ IR .i64 3 wr w.heap.size v xs ∧ Hid (∀ g, v.ownBlock = some g → g ≠ r) ∧ Hid ((xs ++ homesL T rem).Perm (T.P ++ homesL T T.M)) ∧ Below w.heap.size w wr) (fun _ _ wr => wr.rangeLeft m r)
  case atStart => exact ⟨T.M, cnt0, T.P, hr1, Lib.hid ⟨HW.out.msrt, fun x h => h⟩, hR1, Lib.hid hne1, Lib.hid (List.Perm.refl _), hb1⟩
  clear hr1 hR1 hb1 hne1
  case round =>
    obtain ⟨rem, cnt, xs, hr, hsub, hR, hne, hp, hb⟩ := hrel
    go_wp2_with (at_next; refine im_next _ rfl _ rfl 3 3 .i64 Try.underlying3 Try.underlying3 m r T.u T.M rem cnt rfl hr HW.out.msrt hsub.out.2 ?_ ?_)
    · intro hrem
      subst hrem
      replace hp : Hid (xs.Perm (T.P ++ homesL T T.M)) := Lib.hid (by have := hp.out; simpa [homesL] using this)
      have hlen : xs.length ≤ 320 := by have := hp.out.length_eq; simp [homesL] at this; omega
      have hb' := h.below hb
      obtain ⟨-, -, c2, -, -⟩ := hb'.cells
      clear hr hne hsub hb'
      obtain ⟨wo, rfl⟩ : ∃ wo : World, wo = wr := ⟨_, rfl⟩
      go_wp2
      go_loopw [3, 29] (fun v i wr => ∃ (k : Nat), k ≤ T.u ∧ i = .int .i64 k ∧ IR .i64 3 wr w.heap.size v (xs ++ freedL T k) ∧ Below w.heap.size w wr) (fun _ i _ => T.u - (intOf i).toNat)
      case atStart => exact ⟨0, by omega, rfl, by simpa [freedL] using hR, hb⟩
      clear hR hb c2
      case round =>
        obtain ⟨k, hk, rfl, hR, hb⟩ := hrel
        have hfl := freedL_length T k
        by_cases hlt : k < T.u
        · have h2 := h.below hb
          obtain ⟨y, hy⟩ : ∃ y, (T.B : Int) + T.P.length + k = y := ⟨_, rfl⟩
          have hfs := freedL_succ T k
          unfold spareAt at hfs
          rw [hy] at hfs
          have hy0 : 0 ≤ y := by omega
          have hy1 : y ≤ 5000 := by omega
          obtain ⟨f, hf⟩ : ∃ f, f = (T.B : Int) + T.P.length := ⟨_, rfl⟩
          have hfc : ∀ W, TB W t m A c T → Calls Try.prog 30 #[.pointer (some ⟨t, 0, none⟩)] W fun e w' => e = .returned (.int .i64 f) ∧ ∃ q, w' = W.drewN q := by
            rw [hf]; exact fun W hW => first_any t m A c T W hW hBB hP
          have hfy : f + k = y := by omega
          have HFC := Lib.hid hfc
          clear hfc hf hy
          cases hbl : (blockS T y).2 with
          | true =>
            rw [hbl, if_pos rfl] at hfs
            have HFS := Lib.hid hfs
            clear hfs
            go_wp2_with fail
            refine (HFC.out _ h2).mono ?_
            rintro e w3 ⟨rfl, q, rfl⟩
            replace h2 := h2.drewN q
            replace hb := below_drewN hb q
            have hR2 := Kd.R_drewN hR q
            clear hR
            generalize wr.drewN q = w3 at h2 hb hR2 ⊢
            go_wp2_with fail
            refine (block_any t m A c T _ h2 hBB hP HW.out.val64 HW.out.inj HW.out.sle y (by omega)).mono ?_
            rw [hbl]
            rintro e w4 ⟨rfl, hb4⟩
            replace hb := below_step hb hb4
            replace hR2 := ir_below hR2 hb4
            clear hb4
            go_wp2
            go_roundw
            case rel => exact ⟨k + 1, by omega, by go_num, by rw [HFS.out]; exact hR2, hb⟩
            case measure => simp [intOf]; omega
          | false =>
            rw [hbl, if_neg (by simp)] at hfs
            have HFS := Lib.hid hfs
            clear hfs
            go_wp2_with fail
            refine (HFC.out _ h2).mono ?_
            rintro e w3 ⟨rfl, q, rfl⟩
            replace h2 := h2.drewN q
            replace hb := below_drewN hb q
            have hR2 := Kd.R_drewN hR q
            clear hR
            generalize wr.drewN q = w3 at h2 hb hR2 ⊢
            go_wp2_with fail
            refine (block_any t m A c T _ h2 hBB hP HW.out.val64 HW.out.inj HW.out.sle y (by omega)).mono ?_
            rw [hbl]
            rintro e w4 ⟨rfl, hb4⟩
            replace hb := below_step hb hb4
            replace hR2 := ir_below hR2 hb4
            replace h2 := h.below hb
            clear hb4
            go_wp2_with fail
            refine (HFC.out _ h2).mono ?_
            rintro e w5 ⟨rfl, q5, rfl⟩
            replace hb := below_drewN hb q5
            replace hR2 := Kd.R_drewN hR2 q5
            clear h2
            generalize w4.drewN q5 = w5 at hb hR2 ⊢
            have hbase : w.heap.size ≤ w5.heap.size := hb.size
            have hl5 : (xs ++ freedL T k).length ≤ 400 := by rw [List.length_append]; omega
            go_wp2_with (at_builtin; refine ir_app1 (w0 := w) w.heap.size .i64 8 3 22 info_int Try.underlying22 (by decide) rfl _ _ rfl u3 (xs ++ freedL T k) y rfl rfl hR2 hb hbase (by omega) ?_; intro v6 w6 hR6 hb6 hg6 hat6; have HR6 := Lib.hid hR6; clear hR6)
            go_roundw
            case rel => exact ⟨k + 1, by omega, by go_num, by rw [HFS.out, ← List.append_assoc]; exact HR6.out, hb6⟩
            case measure => simp [intOf]; omega
        · obtain rfl : k = T.u := by omega
          have hl5 : (xs ++ freedL T T.u).length < 4611686018427387904 := by rw [List.length_append]; omega
          obtain ⟨nf, hnf⟩ : ∃ n, (xs ++ freedL T T.u).length = n := ⟨_, rfl⟩
          obtain ⟨Af, cf, rfl, hcf⟩ := ir_slice hR hnf
          clear hnf
          go_wp2_with fail
          refine (sort_any w.heap.size Af nf cf _ _ hR hl5).mono ?_
          rintro e w5 ⟨rfl, hR5, hg5⟩
          have hb5 : Below w.heap.size w w5 := hb.grown hg5 hb.size (fun k e => Kd.R_base hR k e)
          have hS : sortS (xs ++ freedL T T.u) = badS T := sortS_congr (hp.out.append_right _)
          rw [hS] at hR5
          have HR5 := Lib.hid hR5
          clear hR5 hS hg5
          go_wp2
          go_ret
          exact ⟨_, rfl, HR5.out, hb5⟩
    · intro x cv w2 cnt2 hwx hwc hmem hr2 hlt hg2 hs2 hen
      have hkey := HW.out.key _ (hsub.out.2 _ hmem)
      have hk1 : 0 ≤ x := hkey.1
      have hk2 : x < T.B := hkey.2
      have hb2 : Below w.heap.size w w2 := hb.grown hg2 hb.size (fun k e => by injection e with e; omega)
      have h2 := h.below hb2
      have hR2 := ir_keep hR hg2 (fun g e he => hne.out g e (by injection he))
      have hlen : xs.length ≤ 320 := by have := hp.out.length_eq; simp [homesL] at this; omega
      have hbase : w.heap.size ≤ w2.heap.size := hb2.size
      have hrlt : r < w2.heap.size := by rw [hs2]; exact World.ranges.lt hr
      clear hkey hg2 hs2
      go_wp2_with (first | (go_at_call 31; refine (home_any t m A c T _ h2 hP x ⟨by omega, by omega⟩).mono ?_; rintro e w' ⟨rfl, rfl⟩) |
        (at_builtin; refine ir_app1 (w0 := w) w.heap.size .i64 8 3 22 info_int Try.underlying22 (by decide) rfl _ _ rfl u3 xs (homeS T.P x) rfl rfl hR2 hb2 hbase (by omega) ?_; intro v3 w3 hR3 hb3 hg3 hat3; have HR3 := Lib.hid hR3; clear hR3))
      have hr3 := mr_of_block hr2 (hg3.block m (by omega) (fun e => by have := Kd.R_base hR2 m e.symm; omega)) (hg3.block r hrlt (fun e => hne.out r e.symm rfl))
      go_roundw
      case rel =>
        refine ⟨strL x rem, cnt2, xs ++ [homeS T.P x], hr3, Lib.hid ⟨srt_strL hsub.out.1 x, fun y hy => hsub.out.2 y (List.mem_filter.1 hy).1⟩, HR3.out, Lib.hid ?_, Lib.hid ?_, hb3⟩
        · intro g e
          rcases hat3 with hat | ⟨b, hat, hle⟩
          · exact hne.out g (hat ▸ e)
          · rw [hat] at e
            injection e with e
            omega
        · have h1 := (strL_perm hsub.out.1 hmem).map (fun x => homeS T.P x.1)
          refine List.Perm.trans ?_ hp.out
          rw [List.append_assoc]
          exact List.Perm.append_left xs h1.symm
      case measure => rw [hr3.left_eq, hr.left_eq]; exact hlt
end Go.Proofs.Ytlifinlideiloaa
