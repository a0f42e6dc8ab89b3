import Derived.Test.YtlifinlideiloaaEE
import Derived.Test.YtlifinlideiloaaEH
import Derived.Test.YtlifinlideiloaaDK
import Derived.Test.YtlifinlideiloaaK6
import Derived.Test.YtlifinlideiloaaK7
/-! Decode at an encoding. -/
namespace Go.Proofs.Ytlifinlideiloaa
set_option linter.unusedVariables false
set_option linter.unusedSimpArgs false
open Go.RowKit Go.Proofs
open Go.Proofs.YtlifinlideiloaaW.PrintWords

theorem str_fst (l m : List Int) : (strOfNums (l ++ m)).extract 0 l.length = strOfNums l := by
  rw [str_append]
  apply ByteArray.ext
  simp [strOfNums]
theorem str_snd (l m : List Int) : (strOfNums (l ++ m)).extract l.length (strOfNums (l ++ m)).size = strOfNums m := by
  rw [str_size, str_append]
  apply ByteArray.ext
  simp [strOfNums]
  exact List.take_of_length_le (by simp)

theorem WT.valid {T : Tab} (h : WT T) : Valid T.B T.S T.P := by
  have h1 := h.B1
  have h2 := h.B
  have h3 := h.S
  refine ⟨by omega, by omega, by omega, by omega, h.P, fun k hk => ?_⟩
  have hr := h.rng _ (rd_mem hk)
  refine ⟨hr.1, hr.2, fun h0 => ?_⟩
  obtain ⟨j, rfl⟩ : ∃ j, k = j + 1 := ⟨k - 1, by omega⟩
  rw [show (((j + 1 : Nat) : Int) - 1) = (j : Int) by omega, rd_get (by omega), rd_get hk]
  exact List.pairwise_iff_getElem.1 h.srt j (j + 1) (by omega) hk (by omega)
/-- the number of used spare sectors is set -/
theorem TB.use {w : World} {t m : Nat} {A : Option Addr} {c : Nat} {T : Tab} (h : TB w t m A c T) (n : Nat) (hn : T.u ≤ n) : TB (w.setCell ⟨t, 2, none⟩ (.int .i64 n)) t m A c ⟨T.B, T.S, n, T.P, T.M⟩ := by
  refine ⟨?_, ?_, h.cap, ?_, h.ne, ?_⟩
  · simp [World.setCell, Array.getElem?_modify, h.blk]
  · exact ic_of_block h.row (fun a e => Below.heap_setCell _ _ _ _ (h.off a e).1)
  · intro a e
    have := h.off a e
    exact ⟨this.1, this.2.1, by simpa using this.2.2⟩
  · exact (im_of_block h.map (Below.heap_setCell _ _ _ _ (fun e => h.ne e.symm))).mono hn
theorem TB.butne {w w1 : World} {t m B : Nat} {A : Option Addr} {c : Nat} {T : Tab} (h : TB w t m A c T) (hb : But B B w w1) (h1 : t ≠ B) (h2 : m ≠ B) (h3 : ∀ a, A = some a → a.block ≠ B) : TB w1 t m A c T :=
  ⟨(hb.block t h.lt h1 h1).trans h.blk, ic_of_block h.row (fun a e => hb.block a.block (h.off a e).2.2 (h3 a e) (h3 a e)), h.cap, fun a e => ⟨(h.off a e).1, (h.off a e).2.1, Nat.lt_of_lt_of_le (h.off a e).2.2 hb.size⟩, h.ne, im_of_block h.map (hb.block m h.map.lt h2 h2)⟩
theorem list_split (l : List Int) (k : Nat) (h : k < l.length) : l = l.take k ++ (rd l k :: l.drop (k + 1)) := by
  rw [rd_get h, List.getElem_cons_drop, List.take_append_drop]
theorem enc_at {T : Tab} (k : Nat) (h : k < T.P.length) : encL T = (magicL ++ (twosL [(T.B : Int), T.S, T.P.length, T.u, T.M.length] ++ twosL (T.P.take k))) ++ (twoS (rd T.P k) ++ (twosL (T.P.drop (k + 1)) ++ (pairsL T.M ++ twoS (crcS (bodyL T))))) := by
  have := congrArg twosL (list_split T.P k h)
  unfold encL
  generalize twoS (crcS (bodyL T)) = z
  unfold bodyL
  rw [this]
  simp [twosL]
theorem enc_pair {T : Tab} (k : Nat) (h : k < T.M.length) : encL T = (magicL ++ (twosL [(T.B : Int), T.S, T.P.length, T.u, T.M.length] ++ (twosL T.P ++ pairsL (T.M.take k)))) ++ (twoS (T.M[k]).1 ++ (twoS (T.M[k]).2 ++ (pairsL (T.M.drop (k + 1)) ++ twoS (crcS (bodyL T))))) := by
  have h2 : T.M = T.M.take k ++ (T.M[k] :: T.M.drop (k + 1)) := by rw [List.getElem_cons_drop, List.take_append_drop]
  have hp : ∀ (a b : PL) (x : Int × Int), pairsL (a ++ x :: b) = pairsL a ++ (twoS x.1 ++ (twoS x.2 ++ pairsL b)) := fun a b x => by simp [pairsL, twosL]
  have := (congrArg pairsL h2).trans (hp _ _ _)
  unfold encL
  generalize twoS (crcS (bodyL T)) = z
  unfold bodyL
  rw [this]
  simp only [List.append_assoc]
theorem TB.keepG {w w1 : World} {t m b : Nat} {A : Option Addr} {c : Nat} {T : Tab} (h : TB w t m A c T) (hg : w.grownBy w1 (some b)) (h1 : t ≠ b) (h2 : m ≠ b) (h3 : ∀ a, A = some a → a.block ≠ b) : TB w1 t m A c T :=
  h.butne (But.of_grown hg (fun k e => by injection e with e; exact .inl e.symm)) h1 h2 h3
theorem im_tight {P : Program} {k e : TypeId} {q : IntKind} {w : World} {b n : Nat} {l : PL} (h : IM P k e q w b n l) : IM P k e q w b l.length l := by
  obtain ⟨es, clock, hb, F, hs, hD⟩ := h
  refine ⟨es, clock, hb, F, ?_, hD⟩
  have := congrArg Maps.size hD
  rw [MD_size] at this
  rw [this]
  simp [Maps.size, Go.length_sorted]
theorem TB.stored {w w1 w2 : World} {t m : Nat} {A : Option Addr} {c : Nat} {T : Tab} (h : TB w t m A c T) (M' : PL) (n : Nat) (h1 : IMi w2 m n M') (hl : M'.length ≤ T.u) (hg : w.grownBy w1 (some m)) (hg2 : w1.grownBy w2 (some m)) :
    TB w2 t m A c ⟨T.B, T.S, T.u, T.P, M'⟩ := by
  have key : ∀ b, b < w.heap.size → b ≠ m → w2.heap[b]? = w.heap[b]? := fun b hb hne =>
    (hg2.block b (Nat.lt_of_lt_of_le hb hg.size) (by intro e; injection e with e; exact hne e)).trans (hg.block b hb (by intro e; injection e with e; exact hne e))
  refine ⟨(key t h.lt h.ne).trans h.blk, ic_of_block (w := w) h.row (fun a e => key _ (h.off a e).2.2 (h.off a e).2.1), h.cap, fun a e => ?_, h.ne, (im_tight h1).mono hl⟩
  have := h.off a e
  exact ⟨this.1, this.2.1, Nat.lt_of_lt_of_le this.2.2 (Nat.le_trans hg.size hg2.size)⟩

set_option maxRecDepth 100000 in
set_option maxHeartbeats 2000000 in
theorem decode_any (T : Tab) (w : World) (hw : WT T) :
    Calls Try.prog 22 #[.string (strOfNums (encL T))] w fun e w' => ∃ t m A c, e = .returned (.tuple #[.pointer (some ⟨t, 0, none⟩), .int .i64 0]) ∧ TB w' t m A c T ∧ w.heap.size ≤ t ∧ w.heap.size ≤ m ∧ (∀ a, A = some a → w.heap.size ≤ a.block) ∧ Below w.heap.size w w' := by
  obtain ⟨s, hs⟩ : ∃ s, strOfNums (encL T) = s := ⟨_, rfl⟩
  have hsz : s.size = 16 + 2 * T.P.length + 4 * T.M.length := by
    rw [← hs, str_size, encL, List.length_append, body_length]; simp [twoS]; omega
  have q1 := hw.B
  have q2 := hw.P
  have q3 := hw.S
  have q4 := hw.u
  have q5 := hw.len
  have z1 : 16 ≤ s.size := by omega
  have z2 : s.size ≤ 1000 := by omega
  have hd : decide ((s.size : Int) < 16) = false := by simp; omega
  have z3 : 0 ≤ (s.size : Int) - 2 := by omega
  have z4 : (s.size : Int) - 2 ≤ s.size := by omega
  have z5 : (2 : Int) ≤ s.size := by omega
  have z6 : (s.size : Int) ≤ s.size + 2 := by omega
  have z7 : 2 ≤ s.size := by omega
  have hbl : (bodyL T).length = s.size - 2 := by rw [body_length]; omega
  have x1 : s.extract 0 ((s.size : Int) - 2).toNat = strOfNums (bodyL T) := by
    rw [show ((s.size : Int) - 2).toNat = (bodyL T).length by rw [hbl]; omega, ← hs]; exact str_fst _ _
  have x2 : s.extract ((s.size : Int) - 2).toNat s.size = strOfNums (twoS (crcS (bodyL T))) := by
    rw [show ((s.size : Int) - 2).toNat = (bodyL T).length by rw [hbl]; omega, ← hs]; exact str_snd _ _
  have hwr : IntKind.i64.wrap ((s.size : Int) - 2) = (s.size : Int) - 2 := IntWalk.i64_in _ (by omega)
  have hbs : (strOfNums (bodyL T)).size ≤ 1000000 := by rw [str_size, hbl]; omega
  have HBO := Lib.hid (bytesOf_str (bodyL T) (body_range hw))
  have HCR := Lib.hid (crcS_range (bodyL T))
  clear hbl
  rw [hs]
  have HS := Lib.hid hs
  have HW := Lib.hid hw
  have HSZ := Lib.hid hsz
  clear hs hw hsz
  go_enter Try.func22, Try.ntmps22
  go_wp2
  go_region_held3 (fun w' => Below w.heap.size w w')
    (first | assumption | exact below_drew (Below.refl _ _) | exact Below.refl _ _ | exact below_step (below_step (below_drew (Below.refl _ _)) hb8) hb9 | exact below_step (below_drew (Below.refl _ _)) hb8)
    (first | (go_at_call 44; refine (crc16_any (strOfNums (bodyL T)) hbs _).mono ?_; rw [HBO.out]; rintro e w8 ⟨rfl, hb8⟩) | (go_at_call 43; refine (crcBytes_any (crcS (bodyL T)) HCR.out _).mono ?_; rintro e w9 ⟨rfl, hb9⟩))
  have hB : Below w.heap.size w w9 := below_step (below_step (below_drew (Below.refl _ _)) hb8) hb9
  rename_i hHeld
  clear hHeld hb8 hb9 hbs HBO HCR x1 x2 hwr hd z3 z4 z5 z6 z7
  have hel : (encL T).length ≤ 1000000 := by
    have := HS.out
    rw [← str_size, this]; omega
  have hdr : encL T = magicL ++ (twoS T.B ++ (twoS T.S ++ (twoS T.P.length ++ (twoS T.u ++ (twoS T.M.length ++ (twosL T.P ++ (pairsL T.M ++ twoS (crcS (bodyL T))))))))) := by
    simp [encL, bodyL, twosL]
  obtain ⟨rb, hrbe⟩ : ∃ rb, w9.heap.size = rb := ⟨_, rfl⟩
  have hrb : w.heap.size ≤ rb := by have := hB.size; omega
  have hr : RS (w9.alloc (.cells #[.string s, .int .i64 4] 77)) rb s 4 := by
    unfold RS; rw [← hrbe]; exact (MapKept.heap_alloc _ _).1
  replace hB := hB.alloc hB.size (.cells #[.string s, .int .i64 4] 77)
  have hnx : ∀ (pre post : List Int) (x : Int), 0 ≤ x → x < 65536 → encL T = pre ++ (twoS x ++ post) → ∀ k : Nat, pre.length = k → ∀ W, RS W rb s k →
      Calls Try.prog 45 #[.pointer (some ⟨rb, 0, none⟩)] W fun e w' => e = .returned (.int .i64 x) ∧ RS w' rb s (k + 2) ∧ But rb rb W w' := by
    intro pre post x x0 x1 hl k hk W hW
    have := next_num rb (encL T) pre post x x0 x1 hl hel k hk W (by rw [HS.out]; exact hW)
    rw [HS.out] at this
    exact this
  have NX := Lib.hid hnx
  have HD := Lib.hid hdr
  clear hnx hdr
  go_wp2_with fail
  refine (NX.out (magicL) (twoS T.S ++ (twoS T.P.length ++ (twoS T.u ++ (twoS T.M.length ++ (twosL T.P ++ (pairsL T.M ++ twoS (crcS (bodyL T)))))))) (T.B) (by omega) (by omega) (by rw [HD.out]; try simp) 4 (by simp [magicL, twoS]) _ hr).mono ?_
  rintro e v1 ⟨rfl, hr', hbt'⟩
  replace hB := But.below hB hbt' hB.size hrb hrb
  replace hr := hr'
  clear hbt' hr'
  go_wp2_with fail
  refine (NX.out (magicL ++ twoS T.B) (twoS T.P.length ++ (twoS T.u ++ (twoS T.M.length ++ (twosL T.P ++ (pairsL T.M ++ twoS (crcS (bodyL T))))))) (T.S) (by omega) (by omega) (by rw [HD.out]; try simp) 6 (by simp [magicL, twoS]) _ hr).mono ?_
  rintro e v2 ⟨rfl, hr', hbt'⟩
  replace hB := But.below hB hbt' hB.size hrb hrb
  replace hr := hr'
  clear hbt' hr'
  go_wp2_with fail
  refine (NX.out (magicL ++ (twoS T.B ++ twoS T.S)) (twoS T.u ++ (twoS T.M.length ++ (twosL T.P ++ (pairsL T.M ++ twoS (crcS (bodyL T)))))) (T.P.length) (by omega) (by omega) (by rw [HD.out]; try simp) 8 (by simp [magicL, twoS]) _ hr).mono ?_
  rintro e v3 ⟨rfl, hr', hbt'⟩
  replace hB := But.below hB hbt' hB.size hrb hrb
  replace hr := hr'
  clear hbt' hr'
  go_wp2_with fail
  refine (NX.out (magicL ++ (twoS T.B ++ (twoS T.S ++ twoS T.P.length))) (twoS T.M.length ++ (twosL T.P ++ (pairsL T.M ++ twoS (crcS (bodyL T))))) (T.u) (by omega) (by omega) (by rw [HD.out]; try simp) 10 (by simp [magicL, twoS]) _ hr).mono ?_
  rintro e v4 ⟨rfl, hr', hbt'⟩
  replace hB := But.below hB hbt' hB.size hrb hrb
  replace hr := hr'
  clear hbt' hr'
  go_wp2_with fail
  refine (NX.out (magicL ++ (twoS T.B ++ (twoS T.S ++ (twoS T.P.length ++ twoS T.u)))) (twosL T.P ++ (pairsL T.M ++ twoS (crcS (bodyL T)))) (T.M.length) (by omega) (by omega) (by rw [HD.out]; try simp) 12 (by simp [magicL, twoS]) _ hr).mono ?_
  rintro e v5 ⟨rfl, hr', hbt'⟩
  replace hB := But.below hB hbt' hB.size hrb hrb
  replace hr := hr'
  clear hbt' hr'
  have hsb : ((s.size : Int) != 16 + 2 * (T.P.length : Int) + 4 * (T.M.length : Int)) = false := by have := HSZ.out; simp; omega
  go_wp2
  have hB5 := hB.size
  have hrlt := hr.lt
  go_loopw [10, 57] (fun v i wr => ∃ (k : Nat), k ≤ T.P.length ∧ i = .int .i64 k ∧ IR .i64 3 wr v5.heap.size v (T.P.take k) ∧ RS wr rb s (14 + 2 * k) ∧ Below w.heap.size w wr ∧ v5.heap.size ≤ wr.heap.size) (fun _ i _ => T.P.length - (intOf i).toNat)
  case atStart => exact ⟨0, by omega, rfl, ir_nil _ _ _ _, hr, hB, Nat.le_refl _⟩
  clear hr hB
  case round =>
    obtain ⟨k, hk, rfl, hR, hr, hB, hge⟩ := hrel
    by_cases hlt : k < T.P.length
    · have hrg := HW.out.rng _ (rd_mem hlt)
      have HT := Lib.hid (take_succ_rd T.P k hlt)
      have hE := enc_at (T := T) k hlt
      obtain ⟨x, hx⟩ : ∃ x, rd T.P k = x := ⟨_, rfl⟩
      rw [hx] at hrg HT hE
      have HE := Lib.hid hE
      have x0 := hrg.1
      have x1 := hrg.2
      clear hrg hx hE
      go_wp2_with fail
      refine (NX.out _ _ x x0 (by omega) HE.out (14 + 2 * k) (by rw [List.length_append, List.length_append, twosL_length, twosL_length, List.length_take]; simp [magicL]; omega) _ hr).mono ?_
      rintro e w6 ⟨rfl, hr6, hbt6⟩
      have hB6 := But.below hB hbt6 hB.size hrb hrb
      have hR6 := ir_but hR hbt6 hrlt hrlt
      have hge6 : v5.heap.size ≤ w6.heap.size := Nat.le_trans hge hbt6.size
      have htl : (T.P.take k).length ≤ 256 := by rw [List.length_take]; omega
      clear hR hr hB hbt6
      go_wp2_with (at_builtin; refine ir_app1 (w0 := w6) v5.heap.size .i64 8 3 22 info_int Try.underlying22 (by decide) rfl _ _ rfl u10 (T.P.take k) x rfl rfl hR6 (Below.refl _ _) hge6 (by omega) ?_; intro v7 w7 hR7 hb7 hg7 hat7; have HR7 := Lib.hid hR7; have hr7 := hb7.block rb hrlt; have hB7 : Below w.heap.size w w7 := hB6.grown hg7 hB6.size (fun k e => by have := Kd.R_base hR6 k e; omega); have hge7 : v5.heap.size ≤ w7.heap.size := Nat.le_trans hge6 hb7.size; clear hR7 hb7 hg7 hat7)
      go_roundw
      case rel => exact ⟨k + 1, by omega, by go_num, by rw [HT.out]; exact HR7.out, hr7.trans hr6, hB7, hge7⟩
      case measure => simp [intOf]; omega
    · obtain rfl : k = T.P.length := by omega
      rw [List.take_length] at hR
      obtain ⟨A6, c6, rfl, hc6⟩ := ir_slice hR (n := T.P.length) rfl
      have hC6 := (ir_ic hR).2.2
      clear hR hc6
      go_wp2_with fail
      refine (new_any2 T.B T.S A6 T.P.length c6 T.P _ hC6 rfl).mono ?_
      rintro e w6 (⟨hv, -, -⟩ | ⟨-, t, m, A, c, rfl, hT, ht, hm, hA, hb6⟩)
      · exact absurd HW.out.valid hv
      simp only [Int.toNat_natCast] at hT
      have hr6 := hr.below hb6
      have hB6 := below_step hB hb6
      have ht' : w.heap.size ≤ t := Nat.le_trans hB.size ht
      have hm' : w.heap.size ≤ m := Nat.le_trans hB.size hm
      have hrt : rb ≠ t := by have := hr.lt; omega
      have hrm : rb ≠ m := by have := hr.lt; omega
      have hrA : Hid (∀ a, A = some a → a.block ≠ rb) := Lib.hid (fun a e => by have := hr.lt; have := hA a e; omega)
      have hA' : Hid (∀ a, A = some a → w.heap.size ≤ a.block) := Lib.hid (fun a e => Nat.le_trans hB.size (hA a e))
      clear hA
      clear hC6 hr hB hb6
      obtain ⟨-, -, c2, -, -⟩ := hT.cells
      have f2 : w6.frozen? ⟨t, 2, none⟩ = false := by simp [World.frozen?, hT.blk]
      have hmm := @run_makeMap Try.prog
      have hal : Below (w6.setCell ⟨t, 2, none⟩ (.int .i64 T.u)).heap.size (w6.setCell ⟨t, 2, none⟩ (.int .i64 T.u)) ((w6.setCell ⟨t, 2, none⟩ (.int .i64 T.u)).alloc (.map #[] 0)) := (Below.refl _ _).alloc (Nat.le_refl _) _
      have hT7 := (hT.use T.u (Nat.zero_le _)).below hal
      have hI7 := is_made (w6.setCell ⟨t, 2, none⟩ (.int .i64 T.u)) Try.prog 3 4
      have hr7 : RS ((w6.setCell ⟨t, 2, none⟩ (.int .i64 T.u)).alloc (.map #[] 0)) rb s (14 + 2 * T.P.length) := RS.below (w := w6.setCell ⟨t, 2, none⟩ (.int .i64 T.u)) ((Below.heap_setCell _ _ _ _ hrt).trans hr6) hal
      have hB7 : Below w.heap.size w ((w6.setCell ⟨t, 2, none⟩ (.int .i64 T.u)).alloc (.map #[] 0)) := (hB6.setCell ht' _).alloc (by have := hB6.size; simp; omega) _
      obtain ⟨mt, hmt⟩ : ∃ mt, (w6.setCell ⟨t, 2, none⟩ (.int .i64 T.u)).heap.size = mt := ⟨_, rfl⟩
      have hmt2 : w6.heap.size = mt := by rw [← hmt]; simp
      have tlt := hT.lt
      have mlt := hT.map.lt
      have tA := Lib.hid (fun a e => (hT.off a e).2.2)
      have rlt := hr6.lt
      rw [hmt2] at tlt mlt tA rlt
      rw [hmt] at hI7
      clear hT hr6 hB6 hal
      go_wp2
      clear hmm c2 f2
      generalize (w6.setCell ⟨t, 2, none⟩ (.int .i64 T.u)).alloc (.map #[] 0) = w7 at hT7 hI7 hr7 hB7 ⊢
      go_loopw [80] (fun i wr => ∃ (k : Nat) (L : PL), k ≤ T.M.length ∧ i = .int .i64 k ∧ TB wr t m A c ⟨T.B, T.S, T.u, T.P, T.M.take k⟩ ∧ IS Try.prog 3 4 wr mt k L ∧ Hid (∀ v y, (v, y) ∈ L → ∃ x ∈ T.M.take k, x.2 = v) ∧ RS wr rb s (14 + 2 * T.P.length + 4 * k) ∧ Below w.heap.size w wr) (fun i _ => T.M.length - (intOf i).toNat)
      case atStart => exact ⟨0, [], by omega, rfl, hT7, hI7, Lib.hid (fun v y h => by simp at h), hr7, hB7⟩
      clear hT7 hI7 hr7 hB7
      case round =>
        obtain ⟨k, L, hk, rfl, hT, hI, hL, hr, hB⟩ := hrel
        by_cases hlt : k < T.M.length
        · have hkey := HW.out.key _ (List.getElem_mem hlt)
          have hval := HW.out.val _ (List.getElem_mem hlt)
          have hE := enc_pair (T := T) k hlt
          have hput := putL_last T.M HW.out.msrt k hlt
          have hlen := HW.out.len
          have hfree : look L (T.M[k]).2 = none := by
            cases e : look L (T.M[k]).2 with
            | none => rfl
            | some y =>
              obtain ⟨x, hx, hxe⟩ := hL.out _ _ (look_mem e)
              obtain ⟨j, hj, rfl⟩ := List.getElem_of_mem hx
              have hjk : j < k := by simp at hj; omega
              rw [List.getElem_take] at hxe
              have := HW.out.inj _ (List.getElem_mem (by omega)) _ (List.getElem_mem hlt) hxe
              have h2 := List.pairwise_iff_getElem.1 HW.out.msrt j k (by omega) hlt hjk
              rw [this] at h2
              omega
          have HMK := Lib.hid (show ∃ x, x ∈ T.M.take (k + 1) ∧ x.2 = (T.M[k]).2 from ⟨T.M[k], by rw [List.take_add_one, List.getElem?_eq_getElem hlt]; exact List.mem_append_right _ (List.mem_singleton.2 rfl), rfl⟩)
          have HTS : Hid (∀ x, x ∈ T.M.take k → x ∈ T.M.take (k + 1)) := Lib.hid (fun x hx => by rw [List.take_add_one]; exact List.mem_append_left _ hx)
          obtain ⟨xp, hxp⟩ : ∃ xp, T.M[k] = xp := ⟨_, rfl⟩
          rw [hxp] at hkey hval hE hput hfree HMK
          obtain ⟨xa, xb⟩ := xp
          simp only at hkey hval hE hput hfree HMK
          obtain ⟨pre, hpre⟩ : ∃ pre, magicL ++ (twosL [(T.B : Int), T.S, T.P.length, T.u, T.M.length] ++ (twosL T.P ++ pairsL (T.M.take k))) = pre := ⟨_, rfl⟩
          obtain ⟨post, hpost⟩ : ∃ post, pairsL (T.M.drop (k + 1)) ++ twoS (crcS (bodyL T)) = post := ⟨_, rfl⟩
          have HPL : Hid (pre.length = 14 + 2 * T.P.length + 4 * k) := Lib.hid (by rw [← hpre, List.length_append, List.length_append, List.length_append, twosL_length, twosL_length, pairsL_length, List.length_take]; simp [magicL]; omega)
          rw [hpre, hpost] at hE
          clear hpre hpost
          have HE := Lib.hid hE
          have HPUT := Lib.hid hput
          have ka := hkey.1
          have kb := hkey.2
          have va := hval.1
          have vb := hval.2
          clear hxp hkey hval hE hput
          go_wp2_with fail
          refine (NX.out pre (twoS xb ++ post) xa ka (by omega) HE.out (14 + 2 * T.P.length + 4 * k) HPL.out _ hr).mono ?_
          rintro e y1 ⟨rfl, hr1, hbt1⟩
          have hT1 := hT.butne hbt1 (Ne.symm hrt) (Ne.symm hrm) hrA.out
          have hI1 := is_of_block hI (hbt1.block mt hI.lt (by omega) (by omega))
          have hB1 := But.below hB hbt1 hB.size hrb hrb
          clear hr hT hI hB hbt1
          go_wp2_with fail
          refine (NX.out (pre ++ twoS xa) post xb va (by omega) (by rw [HE.out, List.append_assoc]) (14 + 2 * T.P.length + 4 * k + 2) (by rw [List.length_append, HPL.out]; simp [twoS]) _ hr1).mono ?_
          rintro e y2 ⟨rfl, hr2, hbt2⟩
          have hT2 := hT1.butne hbt2 (Ne.symm hrt) (Ne.symm hrm) hrA.out
          have hI2 := is_of_block hI1 (hbt2.block mt hI1.lt (by omega) (by omega))
          have hB2 := But.below hB1 hbt2 hB1.size hrb hrb
          clear hr1 hT1 hI1 hB1 hbt2
          have hlk := is_look_run Try.underlying3 Try.underlying78 Try.underlying4 (by kernel_rfl) hI2 xb (wf_i64 (by omega) (by omega))
          rw [hfree] at hlk
          obtain ⟨-, -, -, -, c4⟩ := hT2.cells
          have hul : T.u < maxLen := by unfold maxLen; omega
          have hkl : k < maxLen := by unfold maxLen; omega
          have hML : Hid ((T.M.take (k + 1)).length ≤ T.u) := Lib.hid (by rw [List.length_take]; omega)
          have htm : t ≠ m := hT2.ne
          go_wp2_with (first | (refine im_entry _ rfl _ _ 36 rfl 3 3 .i64 Try.underlying3 Try.underlying36 Try.underlying3 (fun u => zeroInt u) m T.u (T.M.take k) rfl hT2.map hul xa rfl (wf_i64 (by omega) (by omega)) ?_; intro v0 st y3 hS hg3; have hr3 := (hg3.block rb (by have := hr2.lt; exact this) (by intro e; injection e with e; exact hrm e)).trans hr2; have hI3 := is_of_block hI2 (hg3.block mt hI2.lt (by intro e; injection e with e; omega)); have hB3 := hB2.grown hg3 hB2.size (fun k e => by injection e with e; omega); clear hlk c4 hr2 hI2 hB2) | (refine im_store _ rfl _ _ _ 36 rfl 3 3 .i64 y3 m T.u st xa xb (T.M.take k) hS rfl rfl rfl rfl (wf_i64 (by omega) (by omega)) ?_; intro y4 hm4 hg4; rw [HPUT.out] at hm4; have hT4 := hT2.stored _ _ hm4 hML.out hg3 hg4; have hr4 := (hg4.block rb (by have := RS.lt hr3; exact this) (by intro e; injection e with e; exact hrm e)).trans hr3; have hI4 := is_of_block hI3 (hg4.block mt hI3.lt (by intro e; injection e with e; omega)); have hB4 := hB3.grown hg4 hB3.size (fun k e => by injection e with e; omega); clear hS hT2 hg3 hr3 hI3 hB3 hm4 hg4) | (at_mapUpdate; refine is_put _ rfl _ _ _ 78 rfl 3 4 Try.underlying3 Try.underlying78 Try.underlying4 mt k L rfl hI4 hkl xb rfl rfl (wf_i64 (by omega) (by omega)) 1 ?_; intro y5 hI5 hg5; have hT5 := hT4.keepG hg5 (by omega) (by omega) (fun a e => by have := tA.out a e; omega); have hr5 := (hg5.block rb (RS.lt hr4) (by intro e; injection e with e; omega)).trans hr4; have hB5 := hB4.grown hg5 hB4.size (fun k e => by injection e with e; omega); clear hT4 hr4 hI4 hB4 hg5))
          go_roundw
          case rel => exact ⟨k + 1, putL xb 1 L, by omega, by go_num, hT5, hI5, Lib.hid (fun v y h => by rcases mem_putL.1 h with h | h; (injection h with h1 h2; subst h1; exact HMK.out); (obtain ⟨x, hx, hxe⟩ := hL.out v y h.1; exact ⟨x, HTS.out x hx, hxe⟩)), by rw [show 14 + 2 * T.P.length + 4 * (k + 1) = 14 + 2 * T.P.length + 4 * k + 2 + 2 by omega]; exact hr5, hB5⟩
          case measure => simp [intOf]; omega
        · obtain rfl : k = T.M.length := by omega
          rw [List.take_length] at hT
          go_wp2_with fail
          refine (encode_any t m A c T _ hT HW.out).mono ?_
          rw [HS.out]
          rintro e w8 ⟨rfl, hb8⟩
          have hT8 := hT.below hb8
          have hB8 := below_step hB hb8
          clear hT hI hr hB hb8
          go_wp2
          go_ret2
          exact ⟨t, m, A, c, rfl, hT8, ht', hm', hA'.out, hB8⟩
end Go.Proofs.Ytlifinlideiloaa
