import Derived.Test.YtlifinlideiloaaFG
/-! The reference's New. -/
namespace Go.Proofs.Ytlifinlideiloaa
set_option linter.unusedVariables false
set_option linter.unusedSimpArgs false
open Go.RowKit Go.Proofs
open Go.Proofs.YtlifinlideiloaaW.PrintWords

theorem results_row_tmp {P : Program} {fn : Func} {p u : Tmp} {ty : TypeId} (h : fn.results = #[.cell p ty, .tmp u]) (tmps : Array Value) (w : World) (g : Nat) (t : TypeId) (cs : Array Value) (fr : Nat × Nat) (d : TypeDesc)
    (hp : tmps.getD p undef = .pointer (some ⟨g, 0, none⟩)) (hg : w.heap[g]? = some (.cells cs t fr))
    (hu : P.underlying ty = some d) (hd : (match d with | .struct _ | .array _ _ => true | _ => false) = true) (hi : (P.info? ty).map (·.size) = some cs.size) :
    (results fn tmps).run P w = .ok (.tuple #[.agg cs, tmps.getD u undef]) w := by
  have hp' : tmps[p]?.getD undef = .pointer (some ⟨g, 0, none⟩) := by simpa using hp
  simp [results, h, hp', asAddr, run_loadVar_row w g t ty cs fr d hg hu hd hi]
theorem results_row_tmp2 {P : Program} {fn : Func} {p u v : Tmp} {ty : TypeId} (h : fn.results = #[.cell p ty, .tmp u, .tmp v]) (tmps : Array Value) (w : World) (g : Nat) (t : TypeId) (cs : Array Value) (fr : Nat × Nat) (d : TypeDesc)
    (hp : tmps.getD p undef = .pointer (some ⟨g, 0, none⟩)) (hg : w.heap[g]? = some (.cells cs t fr))
    (hu : P.underlying ty = some d) (hd : (match d with | .struct _ | .array _ _ => true | _ => false) = true) (hi : (P.info? ty).map (·.size) = some cs.size) :
    (results fn tmps).run P w = .ok (.tuple #[.agg cs, tmps.getD u undef, tmps.getD v undef]) w := by
  have hp' : tmps[p]?.getD undef = .pointer (some ⟨g, 0, none⟩) := by simpa using hp
  simp [results, h, hp', asAddr, run_loadVar_row w g t ty cs fr d hg hu hd hi]

def zeroT : Array Value := #[.int .i64 0, .int .i64 0, .int .i64 0, .slice none 0 0, .slice none 0 0]
theorem zero_T (w : World) : (zeroValue 42).run Try.prog w = .ok (.agg zeroT) w := by kernel_rfl

theorem zeroT_one : zeroT.all (·.oneCell') = true := by kernel_rfl
set_option maxRecDepth 100000 in
set_option maxHeartbeats 2000000 in
theorem rnew_any (B S : Int) (A : Option Addr) (n c : Nat) (P : List Int) (w : World) (hr0 : IC .i64 w A P) (hn : P.length = n) (hnc : n ≤ c) :
    Calls Try.prog 19 #[.int .i64 B, .int .i64 S, .slice A n c] w fun e w' =>
      (¬ Valid B S P ∧ e = .returned (.tuple #[.agg zeroT, .int .i64 1]) ∧ Below w.heap.size w w') ∨
      (Valid B S P ∧ ∃ A' c', e = .returned (.tuple #[.agg #[.int .i64 B, .int .i64 S, .int .i64 0, .slice A' n c', .slice none 0 0], .int .i64 0]) ∧ IC .i64 w' A' P ∧ n ≤ c' ∧ (∀ a, A' = some a → w.heap.size ≤ a.block ∧ a.block < w'.heap.size) ∧ Below w.heap.size w w') := by
  have hb := (Below.refl w.heap.size w).alloc (Nat.le_refl _) (.cells zeroT 42)
  have h0 := heap_alloc_new w (.cells zeroT 42)
  have hr := ic_below hr0 hb
  clear hr0
  have hm := ic_max hr
  have hz := zero_T
  obtain ⟨g, hg⟩ : ∃ g, w.heap.size = g := ⟨_, rfl⟩
  have hs1 : (w.alloc (.cells zeroT 42)).heap.size = g + 1 := by simp [hg]
  rw [hg] at hb h0
  have hbR := below_setRow hb (Nat.le_refl _) zeroT
  have HbR := Lib.hid hbR
  clear hbR
  rw [hg]
  by_cases h1 : B < 1
  · go_enter Try.func19, Try.ntmps19
    go_wp2_with (refine wpList_store_row rfl 42 _ _ rfl g _ rfl rfl 42 zeroT h0 (by kernel_rfl) rfl zeroT_one ?_)
    (try simp only [Exit.inBlock, Exit.then]); refine bodyPost_ret (results_row_tmp rfl _ _ g 42 _ (0, 0) _ rfl (setRow_heap _ _ _ _ _ _ h0) Try.underlying42 rfl (by kernel_rfl)) rfl ?_
    exact .inl ⟨fun h => by have := h.1; omega, rfl, HbR.out⟩
  by_cases h2 : 4096 < B
  · go_enter Try.func19, Try.ntmps19
    go_wp2_with (refine wpList_store_row rfl 42 _ _ rfl g _ rfl rfl 42 zeroT h0 (by kernel_rfl) rfl zeroT_one ?_)
    (try simp only [Exit.inBlock, Exit.then]); refine bodyPost_ret (results_row_tmp rfl _ _ g 42 _ (0, 0) _ rfl (setRow_heap _ _ _ _ _ _ h0) Try.underlying42 rfl (by kernel_rfl)) rfl ?_
    exact .inl ⟨fun h => by have := h.2.1; omega, rfl, HbR.out⟩
  by_cases h3 : S < 0
  · go_enter Try.func19, Try.ntmps19
    go_wp2_with (refine wpList_store_row rfl 42 _ _ rfl g _ rfl rfl 42 zeroT h0 (by kernel_rfl) rfl zeroT_one ?_)
    (try simp only [Exit.inBlock, Exit.then]); refine bodyPost_ret (results_row_tmp rfl _ _ g 42 _ (0, 0) _ rfl (setRow_heap _ _ _ _ _ _ h0) Try.underlying42 rfl (by kernel_rfl)) rfl ?_
    exact .inl ⟨fun h => by have := h.2.2.1; omega, rfl, HbR.out⟩
  by_cases h4 : 64 < S
  · go_enter Try.func19, Try.ntmps19
    go_wp2_with (refine wpList_store_row rfl 42 _ _ rfl g _ rfl rfl 42 zeroT h0 (by kernel_rfl) rfl zeroT_one ?_)
    (try simp only [Exit.inBlock, Exit.then]); refine bodyPost_ret (results_row_tmp rfl _ _ g 42 _ (0, 0) _ rfl (setRow_heap _ _ _ _ _ _ h0) Try.underlying42 rfl (by kernel_rfl)) rfl ?_
    exact .inl ⟨fun h => by have := h.2.2.2.1; omega, rfl, HbR.out⟩
  by_cases h5 : 256 < (n : Int)
  · go_enter Try.func19, Try.ntmps19
    go_wp2_with (refine wpList_store_row rfl 42 _ _ rfl g _ rfl rfl 42 zeroT h0 (by kernel_rfl) rfl zeroT_one ?_)
    (try simp only [Exit.inBlock, Exit.then]); refine bodyPost_ret (results_row_tmp rfl _ _ g 42 _ (0, 0) _ rfl (setRow_heap _ _ _ _ _ _ h0) Try.underlying42 rfl (by kernel_rfl)) rfl ?_
    exact .inl ⟨fun h => by have := h.2.2.2.2.1; omega, rfl, HbR.out⟩
  go_enter Try.func19, Try.ntmps19
  go_wp2
  clear HbR
  generalize w.alloc (.cells zeroT 42) = w1 at hb h0 hr hs1 ⊢
  go_loopw [8] (fun i wr => ∃ k : Nat, k ≤ n ∧ i = .int .i64 k ∧ Hid (∀ j, j < k → okAt B P j) ∧ Below w1.heap.size w1 wr) (fun i _ => n - (intOf i).toNat)
  case atStart => exact ⟨0, by omega, rfl, Lib.hid (fun j h => by omega), Below.refl _ _⟩
  case round =>
    obtain ⟨k, hk, rfl, hok, hb2⟩ := hrel
    have hrr := ic_below hr hb2
    have h0r := (hb2.block g (by omega)).trans h0
    have hbr : Below g w wr := hb.trans (hb2.mono (by omega))
    clear hb hr h0
    by_cases hlt : k < n
    · obtain ⟨ad, rfl, hcell⟩ := ic_cell hrr k (by omega)
      have hdr : wr.drew.heap = wr.heap := rfl
      by_cases g1 : rd P k < 0
      · go_wp2
        go_quiet (fail)
        go_wp2_with (refine wpList_store_row rfl 42 _ _ rfl g _ rfl rfl 42 zeroT h0r (by kernel_rfl) rfl zeroT_one ?_)
        (try simp only [Exit.inBlock, Exit.then]); refine bodyPost_ret (results_row_tmp rfl _ _ g 42 _ (0, 0) _ rfl (setRow_heap _ _ _ _ _ _ h0r) Try.underlying42 rfl (by kernel_rfl)) rfl ?_
        exact .inl ⟨fun hv => by have := (hv.2.2.2.2.2 k (by omega)).1; omega, rfl, below_setRow (below_drewN hbr _) (Nat.le_refl _) zeroT⟩
      have d1 : decide (rd P k < 0) = false := by simpa using g1
      have sB : IntKind.i64.wrap (B + n) = B + n := IntWalk.i64_in _ (by omega)
      by_cases g2 : B + n ≤ rd P k
      · have d2 : decide (B + n ≤ rd P k) = true := by simpa using g2
        go_wp2
        go_quiet (fail)
        go_wp2_with (refine wpList_store_row rfl 42 _ _ rfl g _ rfl rfl 42 zeroT h0r (by kernel_rfl) rfl zeroT_one ?_)
        (try simp only [Exit.inBlock, Exit.then]); refine bodyPost_ret (results_row_tmp rfl _ _ g 42 _ (0, 0) _ rfl (setRow_heap _ _ _ _ _ _ h0r) Try.underlying42 rfl (by kernel_rfl)) rfl ?_
        exact .inl ⟨fun hv => by have := (hv.2.2.2.2.2 k (by omega)).2.1; omega, rfl, below_setRow (below_drewN hbr _) (Nat.le_refl _) zeroT⟩
      have d2 : decide (B + n ≤ rd P k) = false := by simpa using g2
      by_cases g3 : 0 < k
      · obtain ⟨ad', e', hcell'⟩ := ic_cell hrr (k - 1) (by omega)
        obtain rfl : ad = ad' := by injection e'
        clear e'
        rw [show ((k - 1 : Nat) : Int) = (k : Int) - 1 by omega] at hcell'
        have s1 : ((k : Int) - 1).toNat = k - 1 := by omega
        have s2 : (0 : Int) < k := by omega
        have s3 : decide ((0 : Int) < k) = true := by simpa using g3
        have s4 : IntKind.i64.wrap ((k : Int) - 1) = (k : Int) - 1 := IntWalk.i64_in _ (by omega)
        have s5 : (0 : Int) ≤ (k : Int) - 1 := by omega
        have s6 : (k : Int) - 1 < n := by omega
        by_cases g4 : rd P k ≤ rd P ((k : Int) - 1)
        · have d4 : decide (rd P k ≤ rd P ((k : Int) - 1)) = true := by simpa using g4
          go_wp2
          go_quiet (fail)
          go_wp2_with (refine wpList_store_row rfl 42 _ _ rfl g _ rfl rfl 42 zeroT h0r (by kernel_rfl) rfl zeroT_one ?_)
          (try simp only [Exit.inBlock, Exit.then]); refine bodyPost_ret (results_row_tmp rfl _ _ g 42 _ (0, 0) _ rfl (setRow_heap _ _ _ _ _ _ h0r) Try.underlying42 rfl (by kernel_rfl)) rfl ?_
          exact .inl ⟨fun hv => by have := (hv.2.2.2.2.2 k (by omega)).2.2 g3; omega, rfl, below_setRow (below_drewN hbr _) (Nat.le_refl _) zeroT⟩
        · have d4 : decide (rd P k ≤ rd P ((k : Int) - 1)) = false := by simpa using g4
          go_wp2
          go_quiet (fail)
          go_wp2
          go_roundw
          case rel => exact ⟨k + 1, by omega, by go_num, Lib.hid (fun j h => by
            by_cases e : j = k
            · subst e; exact ⟨by omega, by omega, fun _ => by omega⟩
            · exact hok.out j (by omega)), below_drewN hb2 _⟩
          case measure => simp [intOf]; omega
      · obtain rfl : k = 0 := by omega
        simp only [Addr.add_zero', Int.ofNat_zero] at hcell g1 g2 d1 d2
        go_wp2
        go_quiet (fail)
        go_wp2
        go_roundw
        case rel => exact ⟨1, by omega, by go_num, Lib.hid (fun j h => by
            obtain rfl : j = 0 := by omega
            exact ⟨by simpa using g1, by have := g2; simp at this ⊢; omega, fun h => by omega⟩), below_drewN hb2 _⟩
        case measure => simp [intOf]; omega
    · obtain rfl : k = n := by omega
      have hv : Hid (Valid B S P) := Lib.hid ⟨by omega, by omega, by omega, by omega, by omega, fun j hj => hok.out j (by omega)⟩
      subst hn
      clear hok
      have hlt' : g < wr.heap.size := by have := hb2.size; omega
      have hR0 : IR .i64 3 (wr.alloc (.cells #[] 3)) wr.heap.size (.slice (some ⟨wr.heap.size, 0, none⟩) 0 0) [] := by
        have := ir_lit wr wr.heap.size .i64 3 [] (Nat.le_refl _) (by simp)
        exact this
      have hbA : Below wr.heap.size wr (wr.alloc (.cells #[] 3)) := (Below.refl _ _).alloc (Nat.le_refl _) _
      have hrA := ic_below hrr hbA
      go_wp2_with (first | (at_builtin; refine ir_append (w0 := wr) wr.heap.size .i64 8 3 22 info_int Try.underlying22 (by decide) rfl _ _ rfl (.slice (some ⟨wr.heap.size, 0, none⟩) 0 0) [] P A P.length c rfl rfl rfl hR0 hrA hbA (by simp) (by simp; omega) ?_; intro v7 w7 hR7 hb7 hg7; rw [List.nil_append] at hR7; have h0s : w7.heap[g]? = some (.cells zeroT 42 (0, 0)) := (hb7.block g hlt').trans h0r; have HR7 := Lib.hid hR7; obtain ⟨A7, c7, rfl, hc7⟩ := ir_slice hR7 (n := P.length) rfl; clear hR7 hg7) | (refine wpList_store_row rfl 42 _ _ rfl g _ rfl rfl 42 zeroT h0s (by kernel_rfl) rfl (by kernel_rfl) ?_))
      (try simp only [Exit.inBlock, Exit.then]); refine bodyPost_ret (results_row_tmp rfl _ _ g 42 _ (0, 0) _ rfl (setRow_heap _ _ _ _ _ _ h0s) Try.underlying42 rfl (by kernel_rfl)) rfl ?_
      have hbw : Below g w w7 := hbr.trans (hb7.mono (by omega))
      refine .inr ⟨hv.out, A7, c7, rfl, ?_, hc7, (fun a e => by have := Kd.R_base HR7.out a.block (by rw [e]; rfl); have := Kd.R_lt HR7.out a.block (by rw [e]; rfl); simp; omega), below_setRow hbw (Nat.le_refl _) _⟩
      refine ic_of_block (ir_ic HR7.out).2.2 (fun a e => setRow_other _ _ _ _ ?_)
      have := Kd.R_base HR7.out a.block (by rw [e]; rfl)
      omega
end Go.Proofs.Ytlifinlideiloaa
