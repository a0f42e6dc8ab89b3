import Derived.Test.YtlifinlideiloaaFH
/-! The reference's Replace. -/
namespace Go.Proofs.Ytlifinlideiloaa
set_option linter.unusedVariables false
set_option linter.unusedSimpArgs false
open Go.RowKit Go.Proofs
open Go.Proofs.YtlifinlideiloaaW.PrintWords

theorem insL_lt (x : Int × Int) (l m : PL) (h : ∀ y ∈ l, y.1 < x.1) : insL x (l ++ m) = l ++ insL x m := by
  induction l with
  | nil => rfl
  | cons y l ih =>
    have := h y List.mem_cons_self
    rw [List.cons_append, insL, if_neg (by omega), ih (fun z hz => h z (List.mem_cons_of_mem _ hz))]
    rfl
theorem insL_gt (x y : Int × Int) (l : PL) (h : x.1 < y.1) : insL x (l ++ [y]) = insL x l ++ [y] := by
  induction l with
  | nil => simp [insL, h]
  | cons z l ih =>
    rw [List.cons_append, insL, insL]
    by_cases hz : x.1 < z.1
    · rw [if_pos hz, if_pos hz]; rfl
    · rw [if_neg hz, if_neg hz, ih]; rfl
theorem strL_all {b : Int} {l : PL} (h : ∀ y ∈ l, y.1 < b) : strL b l = l := List.filter_eq_self.2 (fun y hy => by have := h y hy; simp; omega)
theorem strL_snoc (b : Int) (l : PL) (y : Int × Int) : strL b (l ++ [y]) = strL b l ++ (if y.1 = b then [] else [y]) := by
  unfold strL
  rw [List.filter_append]
  congr 1
  by_cases h : y.1 = b <;> simp [h]
/-- the list that grows, and whether the new pair stands in it -/
def StR (M : PL) (b u : Int) (k : Nat) (dn : Bool) (out : PL) : Prop :=
  if dn then out = putL b u (M.take k) ∧ (∀ j (h : j < M.length), k ≤ j → b < M[j].1) else out = M.take k ∧ ∀ y ∈ M.take k, y.1 < b
theorem st0 (M : PL) (b u : Int) : StR M b u 0 false [] := ⟨rfl, fun y hy => by simp at hy⟩
theorem st_take (M : PL) (k : Nat) (h : k < M.length) : M.take (k + 1) = M.take k ++ [M[k]] := by rw [List.take_add_one, List.getElem?_eq_getElem h]; rfl
theorem st_later {M : PL} (hs : Srt M) (k : Nat) (h : k < M.length) (b : Int) (hb : b ≤ M[k].1) : ∀ j (h : j < M.length), k + 1 ≤ j → b < M[j].1 := fun j hj hkj => by
  have := List.pairwise_iff_getElem.1 hs k j h hj (by omega)
  omega
theorem stA {M : PL} {b u : Int} {k : Nat} {out : PL} (h : k < M.length) (hS : StR M b u k false out) (hlt : M[k].1 < b) : StR M b u (k + 1) false (out ++ [M[k]]) := by
  obtain ⟨rfl, h2⟩ := hS
  refine ⟨(st_take M k h).symm, fun y hy => ?_⟩
  rw [st_take M k h] at hy
  rcases List.mem_append.1 hy with hy | hy
  · exact h2 y hy
  · rw [List.mem_singleton.1 hy]; exact hlt
theorem stB {M : PL} (hs : Srt M) {b u : Int} {k : Nat} {out : PL} (h : k < M.length) (hS : StR M b u k false out) (he : M[k].1 = b) : StR M b u (k + 1) true (out ++ [(b, u)]) := by
  obtain ⟨rfl, h2⟩ := hS
  refine ⟨?_, st_later hs k h b (by omega)⟩
  unfold putL
  rw [st_take M k h, strL_snoc, if_pos he, strL_all h2, List.append_nil, insL_last _ _ h2]
theorem stC {M : PL} (hs : Srt M) {b u : Int} {k : Nat} {out : PL} (h : k < M.length) (hS : StR M b u k false out) (hg : b < M[k].1) : StR M b u (k + 1) true (out ++ [(b, u)] ++ [M[k]]) := by
  obtain ⟨rfl, h2⟩ := hS
  refine ⟨?_, st_later hs k h b (by omega)⟩
  unfold putL
  rw [st_take M k h, strL_snoc, if_neg (by omega), strL_all h2, insL_gt _ _ _ hg, insL_last _ _ h2]
theorem stD {M : PL} (hs : Srt M) {b u : Int} {k : Nat} {out : PL} (h : k < M.length) (hS : StR M b u k true out) : b < M[k].1 ∧ StR M b u (k + 1) true (out ++ [M[k]]) := by
  obtain ⟨rfl, h2⟩ := hS
  have hg := h2 k h (Nat.le_refl _)
  refine ⟨hg, ?_, st_later hs k h b (by omega)⟩
  unfold putL
  rw [st_take M k h, strL_snoc, if_neg (by omega), insL_gt _ _ _ hg]
theorem stE {M : PL} {b u : Int} {out : PL} (hS : StR M b u M.length false out) : putL b u M = out ++ [(b, u)] := by
  obtain ⟨rfl, h2⟩ := hS
  rw [List.take_length] at h2 ⊢
  unfold putL
  rw [strL_all h2, insL_last _ _ h2]
theorem stF {M : PL} {b u : Int} {out : PL} (hS : StR M b u M.length true out) : putL b u M = out := by
  obtain ⟨rfl, -⟩ := hS
  rw [List.take_length]
theorem st_len {M : PL} {b u : Int} {k : Nat} {dn : Bool} {out : PL} (hS : StR M b u k dn out) : out.length ≤ k + 1 := by
  cases dn with
  | false => obtain ⟨rfl, -⟩ := hS; rw [List.length_take]; omega
  | true =>
    obtain ⟨rfl, -⟩ := hS
    have := putL_length b u (M.take k)
    rw [List.length_take] at this
    omega

set_option maxRecDepth 100000 in
set_option maxHeartbeats 2000000 in
theorem rrepl_out (T : Tab) (Ap : Option Addr) (cp : Nat) (Am : Option Addr) (cm : Nat) (w : World) (hw : WT T) (b : Int) (hb : ¬ (0 ≤ b ∧ b < T.B)) :
    Calls Try.prog 20 #[.agg #[.int .i64 T.B, .int .i64 T.S, .int .i64 T.u, .slice Ap T.P.length cp, .slice Am T.M.length cm], .int .i64 b] w fun e w' => e = .returned (.tuple #[.agg #[.int .i64 T.B, .int .i64 T.S, .int .i64 T.u, .slice Ap T.P.length cp, .slice Am T.M.length cm], .int .i64 0, .int .i64 2]) ∧ Below w.heap.size w w' := by
  have q1 := hw.B
  clear hw
  have hb1 := (Below.refl w.heap.size w).alloc (Nat.le_refl _) (.cells #[.int .i64 T.B, .int .i64 T.S, .int .i64 T.u, .slice Ap T.P.length cp, .slice Am T.M.length cm] 42)
  have hbx := RB.boxed w T Ap cp Am cm
  have hz := zero_T
  have hs1 : (w.alloc (.cells #[.int .i64 T.B, .int .i64 T.S, .int .i64 T.u, .slice Ap T.P.length cp, .slice Am T.M.length cm] 42)).heap.size = w.heap.size + 1 := by simp
  obtain ⟨c0, c1, c2, c3, c4⟩ := (RB.below hbx ((Below.refl (w.alloc (.cells #[.int .i64 T.B, .int .i64 T.S, .int .i64 T.u, .slice Ap T.P.length cp, .slice Am T.M.length cm] 42)).heap.size (w.alloc (.cells #[.int .i64 T.B, .int .i64 T.S, .int .i64 T.u, .slice Ap T.P.length cp, .slice Am T.M.length cm] 42))).alloc (Nat.le_refl _) (.cells zeroT 42))).cells
  have h0 := heap_alloc_new (w.alloc (.cells #[.int .i64 T.B, .int .i64 T.S, .int .i64 T.u, .slice Ap T.P.length cp, .slice Am T.M.length cm] 42)) (.cells zeroT 42)
  have hb2 := hb1.alloc hb1.size (.cells zeroT 42)
  rw [hs1] at h0
  have hor : b < 0 ∨ (T.B : Int) ≤ b := by omega
  have HBX := Lib.hid hbx
  clear hb hbx
  rcases hor with g0 | g0
  · go_enter Try.func20, Try.ntmps20
    go_wp2_with (refine wpList_store_row rfl 42 _ _ rfl (w.heap.size + 1) _ rfl rfl 42 zeroT h0 (by kernel_rfl) rfl (by simp [Value.oneCell']) ?_)
    (try simp only [Exit.inBlock, Exit.then]); refine bodyPost_ret (results_row_tmp2 rfl _ _ (w.heap.size + 1) 42 _ (0, 0) _ rfl (setRow_heap _ _ _ _ _ _ h0) Try.underlying42 rfl (by kernel_rfl)) rfl ?_
    exact ⟨rfl, below_setRow hb2 (by omega) _⟩
  · have g1 : 0 ≤ b := by omega
    go_enter Try.func20, Try.ntmps20
    go_wp2_with (refine wpList_store_row rfl 42 _ _ rfl (w.heap.size + 1) _ rfl rfl 42 zeroT h0 (by kernel_rfl) rfl (by simp [Value.oneCell']) ?_)
    (try simp only [Exit.inBlock, Exit.then]); refine bodyPost_ret (results_row_tmp2 rfl _ _ (w.heap.size + 1) 42 _ (0, 0) _ rfl (setRow_heap _ _ _ _ _ _ h0) Try.underlying42 rfl (by kernel_rfl)) rfl ?_
    exact ⟨rfl, below_setRow hb2 (by omega) _⟩
set_option maxRecDepth 100000 in
set_option maxHeartbeats 2000000 in
theorem rrepl_full (T : Tab) (Ap : Option Addr) (cp : Nat) (Am : Option Addr) (cm : Nat) (w : World) (hw : WT T) (b : Int) (hb : 0 ≤ b ∧ b < T.B) (hu : T.u = T.S) :
    Calls Try.prog 20 #[.agg #[.int .i64 T.B, .int .i64 T.S, .int .i64 T.u, .slice Ap T.P.length cp, .slice Am T.M.length cm], .int .i64 b] w fun e w' => e = .returned (.tuple #[.agg #[.int .i64 T.B, .int .i64 T.S, .int .i64 T.u, .slice Ap T.P.length cp, .slice Am T.M.length cm], .int .i64 0, .int .i64 12]) ∧ Below w.heap.size w w' := by
  have q1 := hw.B
  clear hw
  have hb1 := (Below.refl w.heap.size w).alloc (Nat.le_refl _) (.cells #[.int .i64 T.B, .int .i64 T.S, .int .i64 T.u, .slice Ap T.P.length cp, .slice Am T.M.length cm] 42)
  have hbx := RB.boxed w T Ap cp Am cm
  have hz := zero_T
  have hs1 : (w.alloc (.cells #[.int .i64 T.B, .int .i64 T.S, .int .i64 T.u, .slice Ap T.P.length cp, .slice Am T.M.length cm] 42)).heap.size = w.heap.size + 1 := by simp
  obtain ⟨c0, c1, c2, c3, c4⟩ := (RB.below hbx ((Below.refl (w.alloc (.cells #[.int .i64 T.B, .int .i64 T.S, .int .i64 T.u, .slice Ap T.P.length cp, .slice Am T.M.length cm] 42)).heap.size (w.alloc (.cells #[.int .i64 T.B, .int .i64 T.S, .int .i64 T.u, .slice Ap T.P.length cp, .slice Am T.M.length cm] 42))).alloc (Nat.le_refl _) (.cells zeroT 42))).cells
  have h0 := heap_alloc_new (w.alloc (.cells #[.int .i64 T.B, .int .i64 T.S, .int .i64 T.u, .slice Ap T.P.length cp, .slice Am T.M.length cm] 42)) (.cells zeroT 42)
  have hb2 := hb1.alloc hb1.size (.cells zeroT 42)
  rw [hs1] at h0
  have g0 := hb.1
  have g1 := hb.2
  have e2 : (((T.u : Nat) : Int) == T.S) = true := by simp [hu]
  have HBX := Lib.hid hbx
  clear hb hbx hu
  go_enter Try.func20, Try.ntmps20
  go_wp2_with (refine wpList_store_row rfl 42 _ _ rfl (w.heap.size + 1) _ rfl rfl 42 zeroT h0 (by kernel_rfl) rfl (by simp [Value.oneCell']) ?_)
  (try simp only [Exit.inBlock, Exit.then]); refine bodyPost_ret (results_row_tmp2 rfl _ _ (w.heap.size + 1) 42 _ (0, 0) _ rfl (setRow_heap _ _ _ _ _ _ h0) Try.underlying42 rfl (by kernel_rfl)) rfl ?_
  exact ⟨rfl, below_setRow hb2 (by omega) _⟩

theorem zero_R (w : World) : (zeroValue 53).run Try.prog w = .ok (.agg #[.int .i64 0, .int .i64 0]) w := by kernel_rfl
theorem rr_lit0 (W : World) (ok : Nat → Prop) (hok : ok W.heap.size) : KdR.R 53 (W.alloc (.cells #[] 53)) W.heap.size ok (.slice (some ⟨W.heap.size, 0, none⟩) 0 0) [] :=
  ⟨fun k hk => by simp [Value.ownBlock] at hk; subst hk; exact hok, OwnRow.lit W W.heap.size (Reps.none _ _) (Nat.le_refl _) (by simp)⟩

set_option maxRecDepth 100000 in
set_option maxHeartbeats 4000000 in
theorem rrepl_put (T : Tab) (Ap : Option Addr) (cp : Nat) (Am : Option Addr) (cm : Nat) (w : World) (hw : WT T) (hm : MRow w Am T.M) (b : Int) (hb : 0 ≤ b ∧ b < T.B) (hu : T.u ≠ T.S) :
    Calls Try.prog 20 #[.agg #[.int .i64 T.B, .int .i64 T.S, .int .i64 T.u, .slice Ap T.P.length cp, .slice Am T.M.length cm], .int .i64 b] w fun e w' => ∃ Am' cm', e = .returned (.tuple #[.agg #[.int .i64 T.B, .int .i64 T.S, .int .i64 ((T.u : Int) + 1), .slice Ap T.P.length cp, .slice Am' (putL b T.u T.M).length cm'], .int .i64 ((T.B : Int) + T.P.length + T.u), .int .i64 0]) ∧ MRow w' Am' (putL b T.u T.M) ∧ (∀ a, Am' = some a → w.heap.size ≤ a.block) ∧ Below w.heap.size w w' := by
  have q1 := hw.B
  have q2 := hw.P
  have q3 := hw.S
  have q4 := hw.u
  have q5 := hw.len
  have HW := Lib.hid hw
  have g0 := hb.1
  have g1 := hb.2
  have e2 : (((T.u : Nat) : Int) == T.S) = false := by simp; omega
  clear hw hb
  have hbA := (Below.refl w.heap.size w).alloc (Nat.le_refl _) (.cells #[.int .i64 T.B, .int .i64 T.S, .int .i64 T.u, .slice Ap T.P.length cp, .slice Am T.M.length cm] 42)
  have hbx := RB.boxed w T Ap cp Am cm
  have hz := zero_T
  have hzr := zero_R
  have hs1 : (w.alloc (.cells #[.int .i64 T.B, .int .i64 T.S, .int .i64 T.u, .slice Ap T.P.length cp, .slice Am T.M.length cm] 42)).heap.size = w.heap.size + 1 := by simp
  have hbB := hbA.alloc hbA.size (.cells zeroT 42)
  have hbx2 := RB.below hbx ((Below.refl (w.alloc (.cells #[.int .i64 T.B, .int .i64 T.S, .int .i64 T.u, .slice Ap T.P.length cp, .slice Am T.M.length cm] 42)).heap.size (w.alloc (.cells #[.int .i64 T.B, .int .i64 T.S, .int .i64 T.u, .slice Ap T.P.length cp, .slice Am T.M.length cm] 42))).alloc (Nat.le_refl _) (.cells zeroT 42))
  have h0 := heap_alloc_new (w.alloc (.cells #[.int .i64 T.B, .int .i64 T.S, .int .i64 T.u, .slice Ap T.P.length cp, .slice Am T.M.length cm] 42)) (.cells zeroT 42)
  rw [hs1] at h0
  have hs2 : ((w.alloc (.cells #[.int .i64 T.B, .int .i64 T.S, .int .i64 T.u, .slice Ap T.P.length cp, .slice Am T.M.length cm] 42)).alloc (.cells zeroT 42)).heap.size = w.heap.size + 2 := by simp
  obtain ⟨c0, c1, c2, c3, c4⟩ := hbx2.cells
  have hR0 := rr_lit0 ((w.alloc (.cells #[.int .i64 T.B, .int .i64 T.S, .int .i64 T.u, .slice Ap T.P.length cp, .slice Am T.M.length cm] 42)).alloc (.cells zeroT 42)) (fun g => g ≠ w.heap.size + 3) (by rw [hs2]; omega)
  rw [hs2] at hR0
  have hb3 := (Below.refl ((w.alloc (.cells #[.int .i64 T.B, .int .i64 T.S, .int .i64 T.u, .slice Ap T.P.length cp, .slice Am T.M.length cm] 42)).alloc (.cells zeroT 42)).heap.size ((w.alloc (.cells #[.int .i64 T.B, .int .i64 T.S, .int .i64 T.u, .slice Ap T.P.length cp, .slice Am T.M.length cm] 42)).alloc (.cells zeroT 42))).alloc (Nat.le_refl _) (.cells #[] 53)
  have h9 := heap_alloc_new (((w.alloc (.cells #[.int .i64 T.B, .int .i64 T.S, .int .i64 T.u, .slice Ap T.P.length cp, .slice Am T.M.length cm] 42)).alloc (.cells zeroT 42)).alloc (.cells #[] 53)) (.cells #[.int .i64 0, .int .i64 0] 53)
  have hs3 : (((w.alloc (.cells #[.int .i64 T.B, .int .i64 T.S, .int .i64 T.u, .slice Ap T.P.length cp, .slice Am T.M.length cm] 42)).alloc (.cells zeroT 42)).alloc (.cells #[] 53)).heap.size = w.heap.size + 3 := by simp
  rw [hs3] at h9
  clear hbx
  go_enter Try.func20, Try.ntmps20
  go_wp2_with (refine wpList_store_row rfl 53 _ _ rfl (w.heap.size + 3) _ rfl rfl 53 _ h9 (by kernel_rfl) rfl (by simp [Value.oneCell']) ?_)
  obtain ⟨w5, hw5⟩ : ∃ w5, World.setRow ((((w.alloc (.cells #[.int .i64 T.B, .int .i64 T.S, .int .i64 T.u, .slice Ap T.P.length cp, .slice Am T.M.length cm] 42)).alloc (.cells zeroT 42)).alloc (.cells #[] 53)).alloc (.cells #[.int .i64 0, .int .i64 0] 53)) (w.heap.size + 3) #[.int .i64 b, .int .i64 T.u] = w5 := ⟨_, rfl⟩
  have h9' : w5.heap[w.heap.size + 3]? = some (.cells #[.int .i64 b, .int .i64 T.u] 53 (0, 0)) := by rw [← hw5]; exact setRow_heap _ _ _ _ _ _ h9
  have hold : ∀ k, k ≠ w.heap.size + 3 → w5.heap[k]? = ((((w.alloc (.cells #[.int .i64 T.B, .int .i64 T.S, .int .i64 T.u, .slice Ap T.P.length cp, .slice Am T.M.length cm] 42)).alloc (.cells zeroT 42)).alloc (.cells #[] 53)).alloc (.cells #[.int .i64 0, .int .i64 0] 53)).heap[k]? := fun k hk => by rw [← hw5]; exact setRow_other _ _ _ _ hk
  have hs4 : ((((w.alloc (.cells #[.int .i64 T.B, .int .i64 T.S, .int .i64 T.u, .slice Ap T.P.length cp, .slice Am T.M.length cm] 42)).alloc (.cells zeroT 42)).alloc (.cells #[] 53)).alloc (.cells #[.int .i64 0, .int .i64 0] 53)).heap.size = w.heap.size + 4 := by simp
  have hs5 : w5.heap.size = w.heap.size + 4 := by rw [← hw5]; simp
  have hb4 := (Below.refl (((w.alloc (.cells #[.int .i64 T.B, .int .i64 T.S, .int .i64 T.u, .slice Ap T.P.length cp, .slice Am T.M.length cm] 42)).alloc (.cells zeroT 42)).alloc (.cells #[] 53)).heap.size (((w.alloc (.cells #[.int .i64 T.B, .int .i64 T.S, .int .i64 T.u, .slice Ap T.P.length cp, .slice Am T.M.length cm] 42)).alloc (.cells zeroT 42)).alloc (.cells #[] 53))).alloc (Nat.le_refl _) (.cells #[.int .i64 0, .int .i64 0] 53)
  have hbx5 : RB w5 w.heap.size T Ap cp Am cm := (hold _ (by omega)).trans (((hbx2.below hb3)).below hb4)
  have h05 : w5.heap[w.heap.size + 1]? = some (.cells zeroT 42) := (hold _ (by omega)).trans ((hb4.block _ (by rw [hs3]; omega)).trans ((hb3.block _ (by rw [hs2]; omega)).trans h0))
  have hR5 : KdR.R 53 w5 (w.heap.size + 2) (fun g => g ≠ w.heap.size + 3) (.slice (some ⟨w.heap.size + 2, 0, none⟩) 0 0) [] := Kd.R_step (Kd.R_below hR0 hb4) (fun k ho hk => hold k ho)
  have hb5 : Below w.heap.size w w5 := by
    rw [← hw5]
    exact below_setRow ((hbB.alloc hbB.size (.cells #[] 53)).alloc (by rw [hs3]; omega) _) (by omega) _
  clear hold hs4 hb4 hb3 hR0 hbx2 h0 h9 hbA hbB hs1 hs2 hs3 c0 c1 c2 c3 c4
  rw [hw5]
  clear hw5
  go_loopw [7, 8, 10] (fun v d i wr => ∃ (k : Nat) (dn : Bool) (out : PL), k ≤ T.M.length ∧ i = .int .i64 k ∧ d = .bool dn ∧ KdR.R 53 wr (w.heap.size + 2) (fun g => g ≠ w.heap.size + 3) v out ∧ Hid (StR T.M b T.u k dn out) ∧ Below (w.heap.size + 2) w5 wr ∧ wr.heap[w.heap.size + 3]? = some (.cells #[.int .i64 b, .int .i64 T.u] 53 (0, 0))) (fun _ _ i _ => T.M.length - (intOf i).toNat)
  case atStart => exact ⟨0, false, [], by omega, rfl, rfl, hR5, Lib.hid (st0 _ _ _), Below.refl _ _, h9'⟩
  clear hR5 h9'
  case round =>
    obtain ⟨k, dn, out, hk, rfl, rfl, hR, hS, hb2, h9⟩ := hrel
    have hbase := hb2.size
    rw [hs5] at hbase
    have hbx : RB wr w.heap.size T Ap cp Am cm := (hb2.block _ (by omega)).trans hbx5
    have h0r := (hb2.block (w.heap.size + 1) (by omega)).trans h05
    have hbw : Below w.heap.size w wr := hb5.trans (hb2.mono (by omega))
    obtain ⟨c0, c1, c2, c3, c4⟩ := hbx.cells
    have c90 : wr.cell? ⟨w.heap.size + 3, 0, none⟩ = some (.int .i64 b) := by simp [World.cell?, h9]
    have c91 : wr.cell? ⟨w.heap.size + 3, 1, none⟩ = some (.int .i64 T.u) := by simp [World.cell?, h9]
    have hln := st_len hS.out
    by_cases hlt : k < T.M.length
    · obtain ⟨g, rfl, hg0, mw0, mw1⟩ := hm k hlt
      have m0 := (hbw.cell hg0).trans mw0
      have m1 := (hbw.cell hg0).trans mw1
      have hkey := HW.out.key _ (List.getElem_mem hlt)
      have hval := HW.out.val _ (List.getElem_mem hlt)
      cases dn with
      | true =>
        obtain ⟨hgt, hS2⟩ := stD HW.out.msrt hlt hS.out
        obtain ⟨xp, hxp⟩ : ∃ xp, T.M[k] = xp := ⟨_, rfl⟩
        rw [hxp] at hgt hS2 m0 m1 hkey hval
        obtain ⟨xa, xb⟩ := xp
        simp only at hgt m0 m1 hkey hval
        have HS2 := Lib.hid hS2
        have ne1 : (xa != b) = true := by simp; omega
        clear hxp hS2 hS
        go_wp2_with (at_builtin; refine Kd.R_append KdR (w0 := w5) (w.heap.size + 2) rfl _ _ 39 53 (.agg #[.int .i64 0, .int .i64 0]) 16 rfl Try.underlying39 info_repl rfl (by decide) (by decide) u7 (out) (xa, xb) [.int .i64 (xa), .int .i64 (xb)] (fun g => g ≠ w.heap.size + 3) (fun _ => False) rfl rfl ⟨[_], [_], rfl, rfl, rfl⟩ (fun _ h => h.elim) (fun k hk => by omega) hR hb2 (by omega) (by omega) ?_; intro v1 y1 hRy1 hby1 hgy1 hay1; have h9y1 := (hgy1.block (w.heap.size + 3) (by omega) (Kd.R_away hR (fun k hk => hk))).trans h9; have hzy1 := hby1.size; have HRy1 := Lib.hid hRy1; clear hgy1 hay1)
        go_roundw
        case rel => exact ⟨k + 1, true, _, by omega, by go_num, rfl, HRy1.out, HS2, hby1, h9y1⟩
        case measure => simp [intOf]; omega
      | false =>
        by_cases hlt2 : T.M[k].1 < b
        · have hS2 := stA hlt hS.out hlt2
          obtain ⟨xp, hxp⟩ : ∃ xp, T.M[k] = xp := ⟨_, rfl⟩
          rw [hxp] at hlt2 hS2 m0 m1 hkey hval
          obtain ⟨xa, xb⟩ := xp
          simp only at hlt2 m0 m1 hkey hval
          have HS2 := Lib.hid hS2
          have ne1 : (xa != b) = true := by simp; omega
          have ge1 : decide (b ≤ xa) = false := by simp; omega
          clear hxp hS2 hS
          go_wp2_with (at_builtin; refine Kd.R_append KdR (w0 := w5) (w.heap.size + 2) rfl _ _ 39 53 (.agg #[.int .i64 0, .int .i64 0]) 16 rfl Try.underlying39 info_repl rfl (by decide) (by decide) u7 (out) (xa, xb) [.int .i64 (xa), .int .i64 (xb)] (fun g => g ≠ w.heap.size + 3) (fun _ => False) rfl rfl ⟨[_], [_], rfl, rfl, rfl⟩ (fun _ h => h.elim) (fun k hk => by omega) hR hb2 (by omega) (by omega) ?_; intro v1 y1 hRy1 hby1 hgy1 hay1; have h9y1 := (hgy1.block (w.heap.size + 3) (by omega) (Kd.R_away hR (fun k hk => hk))).trans h9; have hzy1 := hby1.size; have HRy1 := Lib.hid hRy1; clear hgy1 hay1)
          go_roundw
          case rel => exact ⟨k + 1, false, _, by omega, by go_num, rfl, HRy1.out, HS2, hby1, h9y1⟩
          case measure => simp [intOf]; omega
        · by_cases heq : T.M[k].1 = b
          · have hS2 := stB HW.out.msrt hlt hS.out heq
            obtain ⟨xp, hxp⟩ : ∃ xp, T.M[k] = xp := ⟨_, rfl⟩
            rw [hxp] at hlt2 heq m0 m1 mw0 mw1 hkey hval
            obtain ⟨xa, xb⟩ := xp
            simp only at hlt2 heq m0 m1 mw0 mw1 hkey hval
            subst heq
            have HS2 := Lib.hid hS2
            have ne1 : (xa != xa) = false := by simp
            have ge1 : decide (xa ≤ xa) = true := by simp
            clear hxp hS2 hS hlt2
            go_wp2_with (at_builtin; refine Kd.R_append KdR (w0 := w5) (w.heap.size + 2) rfl _ _ 39 53 (.agg #[.int .i64 0, .int .i64 0]) 16 rfl Try.underlying39 info_repl rfl (by decide) (by decide) u7 (out) (xa, (T.u : Int)) [.int .i64 (xa), .int .i64 ((T.u : Int))] (fun g => g ≠ w.heap.size + 3) (fun _ => False) rfl rfl ⟨[_], [_], rfl, rfl, rfl⟩ (fun _ h => h.elim) (fun k hk => by omega) hR hb2 (by omega) (by omega) ?_; intro v1 y1 hRy1 hby1 hgy1 hay1; have h9y1 := (hgy1.block (w.heap.size + 3) (by omega) (Kd.R_away hR (fun k hk => hk))).trans h9; have hzy1 := hby1.size; have HRy1 := Lib.hid hRy1; clear hgy1 hay1; have hby1' : Below w.heap.size w y1 := hb5.trans (hby1.mono (by omega)); have k4 := ((show RB y1 w.heap.size T Ap cp (some ⟨g, 0, none⟩) cm from (hby1.block w.heap.size (by omega)).trans hbx5)).cells.2.2.2.2; have k0 := (hby1'.cell hg0).trans mw0; have k1 := (hby1'.cell hg0).trans mw1)
            go_roundw
            case rel => exact ⟨k + 1, true, _, by omega, by go_num, rfl, HRy1.out, HS2, hby1, h9y1⟩
            case measure => simp [intOf]; omega
          · have hgt : b < T.M[k].1 := by omega
            have hS2 := stC HW.out.msrt hlt hS.out hgt
            obtain ⟨xp, hxp⟩ : ∃ xp, T.M[k] = xp := ⟨_, rfl⟩
            rw [hxp] at hgt hS2 m0 m1 mw0 mw1 hkey hval
            obtain ⟨xa, xb⟩ := xp
            simp only at hgt m0 m1 mw0 mw1 hkey hval
            have HS2 := Lib.hid hS2
            have ne1 : (xa != b) = true := by simp; omega
            have ge1 : decide (b ≤ xa) = true := by simp; omega
            clear hxp hS2 hS hlt2 heq
            go_wp2_with (first | (at_builtin; refine Kd.R_append KdR (w0 := w5) (w.heap.size + 2) rfl _ _ 39 53 (.agg #[.int .i64 0, .int .i64 0]) 16 rfl Try.underlying39 info_repl rfl (by decide) (by decide) u7 (out) (b, (T.u : Int)) [.int .i64 (b), .int .i64 ((T.u : Int))] (fun g => g ≠ w.heap.size + 3) (fun _ => False) rfl rfl ⟨[_], [_], rfl, rfl, rfl⟩ (fun _ h => h.elim) (fun k hk => by omega) hR hb2 (by omega) (by omega) ?_; intro v1 y1 hRy1 hby1 hgy1 hay1; have h9y1 := (hgy1.block (w.heap.size + 3) (by omega) (Kd.R_away hR (fun k hk => hk))).trans h9; have hzy1 := hby1.size; have HRy1 := Lib.hid hRy1; clear hgy1 hay1; have hl1 : (out ++ [(b, (T.u : Int))]).length = out.length + 1 := (by simp); have hby1' : Below w.heap.size w y1 := hb5.trans (hby1.mono (by omega)); have k4 := ((show RB y1 w.heap.size T Ap cp (some ⟨g, 0, none⟩) cm from (hby1.block w.heap.size (by omega)).trans hbx5)).cells.2.2.2.2; have k0 := (hby1'.cell hg0).trans mw0; have k1 := (hby1'.cell hg0).trans mw1) | (at_builtin; refine Kd.R_append KdR (w0 := w5) (w.heap.size + 2) rfl _ _ 39 53 (.agg #[.int .i64 0, .int .i64 0]) 16 rfl Try.underlying39 info_repl rfl (by decide) (by decide) v1 (out ++ [(b, (T.u : Int))]) (xa, xb) [.int .i64 (xa), .int .i64 (xb)] (fun g => g ≠ w.heap.size + 3) (fun _ => False) rfl rfl ⟨[_], [_], rfl, rfl, rfl⟩ (fun _ h => h.elim) (fun k hk => by omega) HRy1.out hby1 (by omega) (by omega) ?_; intro v2 y2 hRy2 hby2 hgy2 hay2; have h9y2 := (hgy2.block (w.heap.size + 3) (by omega) (Kd.R_away HRy1.out (fun k hk => hk))).trans h9y1; have hzy2 := hby2.size; have HRy2 := Lib.hid hRy2; clear hgy2 hay2))
            go_roundw
            case rel => exact ⟨k + 1, true, _, by omega, by go_num, rfl, HRy2.out, HS2, hby2, h9y2⟩
            case measure => simp [intOf]; omega
    · obtain rfl : k = T.M.length := by omega
      cases dn with
      | true =>
        have HL := Lib.hid (stF hS.out)
        have HRw := Lib.hid hR
        clear hR
        have hsY := hb2.size
        rw [hs5] at hsY
        have hbY : RB wr w.heap.size T Ap cp Am cm := (hb2.block w.heap.size (by omega)).trans hbx5
        have h0Y := (hb2.block (w.heap.size + 1) (by omega)).trans h05
        have hwY : Below w.heap.size w wr := hb5.trans (hb2.mono (by omega))
        obtain ⟨A9, c9, rfl, hc9, -⟩ := Kd.R_reads HRw.out
        have HR9 := Lib.hid (Kd.R_bound HRw.out)
        have hll := st_len hS.out
        obtain ⟨n9, hn9⟩ : ∃ n, (out).length = n := ⟨_, rfl⟩
        rw [hn9] at HR9
        have HN9 : Hid ((putL b T.u T.M).length = n9) := Lib.hid (by rw [HL.out, hn9])
        have hbY' : wr.heap[w.heap.size]? = some (.cells #[.int .i64 T.B, .int .i64 T.S, .int .i64 T.u, .slice Ap T.P.length cp, .slice Am T.M.length cm] 42 (0, 0)) := hbY
        have f4 : wr.frozen? ⟨w.heap.size, 4, none⟩ = false := by simp [World.frozen?, hbY']
        have f2 : wr.frozen? ⟨w.heap.size, 2, none⟩ = false := by simp [World.frozen?, hbY']
        obtain ⟨c0, c1, c2, c3, c4⟩ := hbY.cells
        obtain ⟨y7, hy7⟩ : ∃ y7, (wr.setCell ⟨w.heap.size, 4, none⟩ (.slice A9 n9 c9)).setCell ⟨w.heap.size, 2, none⟩ (.int .i64 ((T.u : Int) + 1)) = y7 := ⟨_, rfl⟩
        have hY7 : y7.heap[w.heap.size]? = some (.cells #[.int .i64 T.B, .int .i64 T.S, .int .i64 ((T.u : Int) + 1), .slice Ap T.P.length cp, .slice A9 n9 c9] 42 (0, 0)) := by rw [← hy7]; simp [World.setCell, Array.getElem?_modify, hbY']
        have hoth : ∀ k, k ≠ w.heap.size → y7.heap[k]? = wr.heap[k]? := fun k hk => by rw [← hy7]; exact (Below.heap_setCell _ _ _ _ hk).trans (Below.heap_setCell _ _ _ _ hk)
        have h07 := (hoth (w.heap.size + 1) (by omega)).trans h0Y
        have h97 := (hoth (w.heap.size + 3) (by omega)).trans h9
        have hw7 : Below w.heap.size w y7 := by rw [← hy7]; exact (hwY.setCell (Nat.le_refl _) _).setCell (Nat.le_refl _) _
        have HOT := Lib.hid hoth
        clear hoth
        go_wp2
        try rw [hy7]
        clear hy7 c0 c1 c2 c3 c4 f2 f4 hbY hbY' hwY h0Y
        have d0 : y7.cell? ⟨w.heap.size, 0, none⟩ = some (.int .i64 T.B) := by simp [World.cell?, hY7]
        have d1 : y7.cell? ⟨w.heap.size, 1, none⟩ = some (.int .i64 T.S) := by simp [World.cell?, hY7]
        have d2 : y7.cell? ⟨w.heap.size, 2, none⟩ = some (.int .i64 ((T.u : Int) + 1)) := by simp [World.cell?, hY7]
        have d3 : y7.cell? ⟨w.heap.size, 3, none⟩ = some (.slice Ap T.P.length cp) := by simp [World.cell?, hY7]
        have d4 : y7.cell? ⟨w.heap.size, 4, none⟩ = some (.slice A9 n9 c9) := by simp [World.cell?, hY7]
        have d5 : y7.cell? ⟨w.heap.size + 3, 1, none⟩ = some (.int .i64 T.u) := by simp [World.cell?, h97]
        have s1 : IntKind.i64.wrap ((T.B : Int) + T.P.length) = (T.B : Int) + T.P.length := IntWalk.i64_in _ (by omega)
        have s2 : IntKind.i64.wrap ((T.B : Int) + T.P.length + T.u) = (T.B : Int) + T.P.length + T.u := IntWalk.i64_in _ (by omega)
        have z0 : ∀ i, i < 5 → y7.frozen? ⟨w.heap.size + 1, i, none⟩ = false := fun i hi => by simp [World.frozen?, h07]
        have hz8 : y7.heap[w.heap.size + 1]? = some (.cells #[.int .i64 0, .int .i64 0, .int .i64 0, .slice none 0 0, .slice none 0 0] 42 (0, 0)) := h07
        have f0 := z0 0 (by omega)
        have f1 := z0 1 (by omega)
        have f2 := z0 2 (by omega)
        have f3 := z0 3 (by omega)
        have f4 := z0 4 (by omega)
        have k0 : y7.cell? ⟨w.heap.size + 1, 0, none⟩ = some (.int .i64 0) := by simp [World.cell?, hz8]
        have k1 : y7.cell? ⟨w.heap.size + 1, 1, none⟩ = some (.int .i64 0) := by simp [World.cell?, hz8]
        have k2 : y7.cell? ⟨w.heap.size + 1, 2, none⟩ = some (.int .i64 0) := by simp [World.cell?, hz8]
        have k3 : y7.cell? ⟨w.heap.size + 1, 3, none⟩ = some (.slice none 0 0) := by simp [World.cell?, hz8]
        have k4 : y7.cell? ⟨w.heap.size + 1, 4, none⟩ = some (.slice none 0 0) := by simp [World.cell?, hz8]
        clear z0
        obtain ⟨y8, hy8⟩ : ∃ y8, ((((y7.setCell ⟨w.heap.size + 1, 0, none⟩ (.int .i64 T.B)).setCell ⟨w.heap.size + 1, 1, none⟩ (.int .i64 T.S)).setCell ⟨w.heap.size + 1, 2, none⟩ (.int .i64 ((T.u : Int) + 1))).setCell ⟨w.heap.size + 1, 3, none⟩ (.slice Ap T.P.length cp)).setCell ⟨w.heap.size + 1, 4, none⟩ (.slice A9 n9 c9) = y8 := ⟨_, rfl⟩
        have h08 : y8.heap[w.heap.size + 1]? = some (.cells #[.int .i64 T.B, .int .i64 T.S, .int .i64 ((T.u : Int) + 1), .slice Ap T.P.length cp, .slice A9 n9 c9] 42 (0, 0)) := by rw [← hy8]; simp [World.setCell, Array.getElem?_modify, hz8]
        have hoth8 : ∀ k, k ≠ w.heap.size + 1 → y8.heap[k]? = y7.heap[k]? := fun k hk => by rw [← hy8]; exact (Below.heap_setCell _ _ _ _ hk).trans ((Below.heap_setCell _ _ _ _ hk).trans ((Below.heap_setCell _ _ _ _ hk).trans ((Below.heap_setCell _ _ _ _ hk).trans (Below.heap_setCell _ _ _ _ hk))))
        have hw8 : Below w.heap.size w y8 := by rw [← hy8]; exact ((((hw7.setCell (Nat.le_succ _) _).setCell (Nat.le_succ _) _).setCell (Nat.le_succ _) _).setCell (Nat.le_succ _) _).setCell (Nat.le_succ _) _
        have HO8 := Lib.hid hoth8
        have HY8 := Lib.hid hy8
        clear hoth8 hy8
        go_region_held3 (fun w' => w'.cell? ⟨w.heap.size, 0, none⟩ = some (.int .i64 T.B) ∧ w'.cell? ⟨w.heap.size, 1, none⟩ = some (.int .i64 T.S) ∧ w'.cell? ⟨w.heap.size, 2, none⟩ = some (.int .i64 ((T.u : Int) + 1)) ∧ w'.cell? ⟨w.heap.size, 3, none⟩ = some (.slice Ap T.P.length cp) ∧ w'.cell? ⟨w.heap.size, 4, none⟩ = some (.slice A9 n9 c9) ∧ w'.cell? ⟨w.heap.size + 3, 1, none⟩ = some (.int .i64 T.u)) (go_keep) (fail)
        rw [HY8.out]
        go_wp2
        (try simp only [Exit.inBlock, Exit.then]); refine bodyPost_ret (results_row_tmp2 rfl _ _ (w.heap.size + 1) 42 #[.int .i64 T.B, .int .i64 T.S, .int .i64 ((T.u : Int) + 1), .slice Ap T.P.length cp, .slice A9 n9 c9] (0, 0) _ rfl h08 Try.underlying42 rfl (by kernel_rfl)) rfl ?_
        refine ⟨A9, c9, by rw [HN9.out] <;> rfl, ?_, (fun a e => by have := Kd.R_base HR9.out a.block (by rw [e]; rfl); omega), below_drew hw8⟩
        rw [HL.out]
        refine MRow.of (c := c9) (n := n9) (base := w.heap.size + 2) (Kd.R_mono (Kd.R_step HR9.out (fun k hk hlt => ?_)) (fun _ _ => trivial))
        have := hk.2.1
        exact (HO8.out k (by omega)).trans (HOT.out k (by omega))
      | false =>
        have HL := Lib.hid (stE hS.out)
        have hlo : (out ++ [(b, (T.u : Int))]).length = out.length + 1 := by simp
        go_wp2_with (
          at_builtin
          refine Kd.R_append KdR (w0 := w5) (w.heap.size + 2) rfl _ _ 39 53 (.agg #[.int .i64 0, .int .i64 0]) 16 rfl Try.underlying39 info_repl rfl (by decide) (by decide) u7 out (b, (T.u : Int)) [.int .i64 b, .int .i64 (T.u : Int)] (fun g => g ≠ w.heap.size + 3) (fun _ => False) rfl rfl ⟨[_], [_], rfl, rfl, rfl⟩ (fun _ h => h.elim) (fun k hk => by omega) hR hb2 (by omega) (by omega) ?_
          intro v1 y1 hRy1 hby1 hgy1 hay1
          have h9y1 := (hgy1.block (w.heap.size + 3) (by omega) (Kd.R_away hR (fun k hk => hk))).trans h9
          have HRy1 := Lib.hid hRy1
          clear hgy1 hay1 hRy1
          have hsY := hby1.size
          rw [hs5] at hsY
          have hbY : RB y1 w.heap.size T Ap cp Am cm := (hby1.block w.heap.size (by omega)).trans hbx5
          have h0Y := (hby1.block (w.heap.size + 1) (by omega)).trans h05
          have hwY : Below w.heap.size w y1 := hb5.trans (hby1.mono (by omega))
          obtain ⟨A9, c9, rfl, hc9, -⟩ := Kd.R_reads HRy1.out
          have HR9 := Lib.hid (Kd.R_bound HRy1.out)
          have hll := st_len hS.out
          obtain ⟨n9, hn9⟩ : ∃ n, (out ++ [(b, (T.u : Int))]).length = n := ⟨_, rfl⟩
          rw [hn9] at HR9 ⊢
          have HN9 : Hid ((putL b T.u T.M).length = n9) := Lib.hid (by rw [HL.out, hn9])
          have hbY' : y1.heap[w.heap.size]? = some (.cells #[.int .i64 T.B, .int .i64 T.S, .int .i64 T.u, .slice Ap T.P.length cp, .slice Am T.M.length cm] 42 (0, 0)) := hbY
          have f4 : y1.frozen? ⟨w.heap.size, 4, none⟩ = false := by simp [World.frozen?, hbY']
          have f2 : y1.frozen? ⟨w.heap.size, 2, none⟩ = false := by simp [World.frozen?, hbY']
          obtain ⟨c0, c1, c2, c3, c4⟩ := hbY.cells
          obtain ⟨y7, hy7⟩ : ∃ y7, (y1.setCell ⟨w.heap.size, 4, none⟩ (.slice A9 n9 c9)).setCell ⟨w.heap.size, 2, none⟩ (.int .i64 ((T.u : Int) + 1)) = y7 := ⟨_, rfl⟩
          have hY7 : y7.heap[w.heap.size]? = some (.cells #[.int .i64 T.B, .int .i64 T.S, .int .i64 ((T.u : Int) + 1), .slice Ap T.P.length cp, .slice A9 n9 c9] 42 (0, 0)) := by rw [← hy7]; simp [World.setCell, Array.getElem?_modify, hbY']
          have hoth : ∀ k, k ≠ w.heap.size → y7.heap[k]? = y1.heap[k]? := fun k hk => by rw [← hy7]; exact (Below.heap_setCell _ _ _ _ hk).trans (Below.heap_setCell _ _ _ _ hk)
          have h07 := (hoth (w.heap.size + 1) (by omega)).trans h0Y
          have h97 := (hoth (w.heap.size + 3) (by omega)).trans h9y1
          have hw7 : Below w.heap.size w y7 := by rw [← hy7]; exact (hwY.setCell (Nat.le_refl _) _).setCell (Nat.le_refl _) _
          have HOT := Lib.hid hoth
          clear hoth)
        try rw [hy7]
        clear hy7 c0 c1 c2 c3 c4 f2 f4 hbY hbY' hwY h0Y
        have d0 : y7.cell? ⟨w.heap.size, 0, none⟩ = some (.int .i64 T.B) := by simp [World.cell?, hY7]
        have d1 : y7.cell? ⟨w.heap.size, 1, none⟩ = some (.int .i64 T.S) := by simp [World.cell?, hY7]
        have d2 : y7.cell? ⟨w.heap.size, 2, none⟩ = some (.int .i64 ((T.u : Int) + 1)) := by simp [World.cell?, hY7]
        have d3 : y7.cell? ⟨w.heap.size, 3, none⟩ = some (.slice Ap T.P.length cp) := by simp [World.cell?, hY7]
        have d4 : y7.cell? ⟨w.heap.size, 4, none⟩ = some (.slice A9 n9 c9) := by simp [World.cell?, hY7]
        have d5 : y7.cell? ⟨w.heap.size + 3, 1, none⟩ = some (.int .i64 T.u) := by simp [World.cell?, h97]
        have s1 : IntKind.i64.wrap ((T.B : Int) + T.P.length) = (T.B : Int) + T.P.length := IntWalk.i64_in _ (by omega)
        have s2 : IntKind.i64.wrap ((T.B : Int) + T.P.length + T.u) = (T.B : Int) + T.P.length + T.u := IntWalk.i64_in _ (by omega)
        have z0 : ∀ i, i < 5 → y7.frozen? ⟨w.heap.size + 1, i, none⟩ = false := fun i hi => by simp [World.frozen?, h07]
        have hz8 : y7.heap[w.heap.size + 1]? = some (.cells #[.int .i64 0, .int .i64 0, .int .i64 0, .slice none 0 0, .slice none 0 0] 42 (0, 0)) := h07
        have f0 := z0 0 (by omega)
        have f1 := z0 1 (by omega)
        have f2 := z0 2 (by omega)
        have f3 := z0 3 (by omega)
        have f4 := z0 4 (by omega)
        have k0 : y7.cell? ⟨w.heap.size + 1, 0, none⟩ = some (.int .i64 0) := by simp [World.cell?, hz8]
        have k1 : y7.cell? ⟨w.heap.size + 1, 1, none⟩ = some (.int .i64 0) := by simp [World.cell?, hz8]
        have k2 : y7.cell? ⟨w.heap.size + 1, 2, none⟩ = some (.int .i64 0) := by simp [World.cell?, hz8]
        have k3 : y7.cell? ⟨w.heap.size + 1, 3, none⟩ = some (.slice none 0 0) := by simp [World.cell?, hz8]
        have k4 : y7.cell? ⟨w.heap.size + 1, 4, none⟩ = some (.slice none 0 0) := by simp [World.cell?, hz8]
        clear z0
        obtain ⟨y8, hy8⟩ : ∃ y8, ((((y7.setCell ⟨w.heap.size + 1, 0, none⟩ (.int .i64 T.B)).setCell ⟨w.heap.size + 1, 1, none⟩ (.int .i64 T.S)).setCell ⟨w.heap.size + 1, 2, none⟩ (.int .i64 ((T.u : Int) + 1))).setCell ⟨w.heap.size + 1, 3, none⟩ (.slice Ap T.P.length cp)).setCell ⟨w.heap.size + 1, 4, none⟩ (.slice A9 n9 c9) = y8 := ⟨_, rfl⟩
        have h08 : y8.heap[w.heap.size + 1]? = some (.cells #[.int .i64 T.B, .int .i64 T.S, .int .i64 ((T.u : Int) + 1), .slice Ap T.P.length cp, .slice A9 n9 c9] 42 (0, 0)) := by rw [← hy8]; simp [World.setCell, Array.getElem?_modify, hz8]
        have hoth8 : ∀ k, k ≠ w.heap.size + 1 → y8.heap[k]? = y7.heap[k]? := fun k hk => by rw [← hy8]; exact (Below.heap_setCell _ _ _ _ hk).trans ((Below.heap_setCell _ _ _ _ hk).trans ((Below.heap_setCell _ _ _ _ hk).trans ((Below.heap_setCell _ _ _ _ hk).trans (Below.heap_setCell _ _ _ _ hk))))
        have hw8 : Below w.heap.size w y8 := by rw [← hy8]; exact ((((hw7.setCell (Nat.le_succ _) _).setCell (Nat.le_succ _) _).setCell (Nat.le_succ _) _).setCell (Nat.le_succ _) _).setCell (Nat.le_succ _) _
        have HO8 := Lib.hid hoth8
        have HY8 := Lib.hid hy8
        clear hoth8 hy8
        go_region_held3 (fun w' => w'.cell? ⟨w.heap.size, 0, none⟩ = some (.int .i64 T.B) ∧ w'.cell? ⟨w.heap.size, 1, none⟩ = some (.int .i64 T.S) ∧ w'.cell? ⟨w.heap.size, 2, none⟩ = some (.int .i64 ((T.u : Int) + 1)) ∧ w'.cell? ⟨w.heap.size, 3, none⟩ = some (.slice Ap T.P.length cp) ∧ w'.cell? ⟨w.heap.size, 4, none⟩ = some (.slice A9 n9 c9) ∧ w'.cell? ⟨w.heap.size + 3, 1, none⟩ = some (.int .i64 T.u)) (go_keep) (fail)
        rw [HY8.out]
        go_wp2
        (try simp only [Exit.inBlock, Exit.then]); refine bodyPost_ret (results_row_tmp2 rfl _ _ (w.heap.size + 1) 42 #[.int .i64 T.B, .int .i64 T.S, .int .i64 ((T.u : Int) + 1), .slice Ap T.P.length cp, .slice A9 n9 c9] (0, 0) _ rfl h08 Try.underlying42 rfl (by kernel_rfl)) rfl ?_
        refine ⟨A9, c9, by rw [HN9.out] <;> rfl, ?_, (fun a e => by have := Kd.R_base HR9.out a.block (by rw [e]; rfl); omega), below_drew hw8⟩
        rw [HL.out]
        refine MRow.of (c := c9) (n := n9) (base := w.heap.size + 2) (Kd.R_mono (Kd.R_step HR9.out (fun k hk hlt => ?_)) (fun _ _ => trivial))
        have := hk.2.1
        exact (HO8.out k (by omega)).trans (HOT.out k (by omega))

theorem rrepl_any (T : Tab) (Ap : Option Addr) (cp : Nat) (Am : Option Addr) (cm : Nat) (w : World) (hw : WT T) (hm : MRow w Am T.M) (b : Int) :
    Calls Try.prog 20 #[.agg #[.int .i64 T.B, .int .i64 T.S, .int .i64 T.u, .slice Ap T.P.length cp, .slice Am T.M.length cm], .int .i64 b] w fun e w' => ∃ Am' cm', e = .returned (.tuple #[.agg #[.int .i64 (replS T b).1.B, .int .i64 (replS T b).1.S, .int .i64 (replS T b).1.u, .slice Ap (replS T b).1.P.length cp, .slice Am' (replS T b).1.M.length cm'], .int .i64 (replS T b).2.1, .int .i64 (replS T b).2.2]) ∧ MRow w' Am' (replS T b).1.M ∧ (∀ a, Am' = some a → Am = some a ∨ w.heap.size ≤ a.block) ∧ Below w.heap.size w w' := by
  by_cases hb : 0 ≤ b ∧ b < T.B
  · by_cases hu : T.u = T.S
    · have HS : replS T b = (T, 0, 12) := by unfold replS; rw [if_neg (by simpa using hb), if_pos hu]
      rw [HS]
      refine (rrepl_full T Ap cp Am cm w hw b hb hu).mono ?_
      rintro e w' ⟨rfl, hb1⟩
      exact ⟨Am, cm, rfl, hm.below hb1, fun a e => .inl e, hb1⟩
    · have HS : replS T b = (putT T b, (T.B : Int) + T.P.length + T.u, 0) := by unfold replS; rw [if_neg (by simpa using hb), if_neg hu]
      rw [HS]
      refine (rrepl_put T Ap cp Am cm w hw hm b hb hu).mono ?_
      rintro e w' ⟨Am', cm', rfl, h1, h2, h3⟩
      exact ⟨Am', cm', rfl, h1, fun a e => .inr (h2 a e), h3⟩
  · have HS : replS T b = (T, 0, 2) := by unfold replS; rw [if_pos hb]
    rw [HS]
    refine (rrepl_out T Ap cp Am cm w hw b hb).mono ?_
    rintro e w' ⟨rfl, hb1⟩
    exact ⟨Am, cm, rfl, hm.below hb1, fun a e => .inl e, hb1⟩
end Go.Proofs.Ytlifinlideiloaa
