import Derived.Test.YtlifinlideiloaaED
import Derived.Deep.MidRow
/-! Encode, walked. -/
namespace Go.Proofs.Ytlifinlideiloaa
set_option linter.unusedVariables false
set_option linter.unusedSimpArgs false
open Go.RowKit Go.Proofs
open Go.Proofs.YtlifinlideiloaaW.PrintWords

def pairsL (l : PL) : List Int := l.flatMap fun x => twosL [x.1, x.2]
theorem pairsL_snoc (l : PL) (x : Int × Int) : pairsL (l ++ [x]) = pairsL l ++ twosL [x.1, x.2] := by simp [pairsL]
theorem pairsL_length (l : PL) : (pairsL l).length = 4 * l.length := by
  induction l with
  | nil => rfl
  | cons x l ih => simp only [pairsL, List.flatMap_cons, List.length_append] at ih ⊢; rw [ih]; simp [twosL, twoS]; omega
def magicL : List Int := [68, 77, 84, 49]
def bodyL (T : Tab) : List Int := magicL ++ twosL [(T.B : Int), T.S, T.P.length, T.u, T.M.length] ++ twosL T.P ++ pairsL T.M
def encL (T : Tab) : List Int := bodyL T ++ twoS (crcS (bodyL T))

theorem TB.but1 {w w1 : World} {t m B : Nat} {A : Option Addr} {c : Nat} {T : Tab} (h : TB w t m A c T) (hb : But B B w w1) (h1 : t < B) (h2 : m < B) (h3 : ∀ a, A = some a → a.block < B) : TB w1 t m A c T :=
  ⟨(hb.block t h.lt (by omega) (by omega)).trans h.blk, ic_of_block h.row (fun a e => hb.block a.block (h.off a e).2.2 (by have := h3 a e; omega) (by have := h3 a e; omega)), h.cap, fun a e => ⟨(h.off a e).1, (h.off a e).2.1, Nat.lt_of_lt_of_le (h.off a e).2.2 hb.size⟩, h.ne, im_of_block h.map (hb.block m h.map.lt (by omega) (by omega))⟩
theorem rr_but {w w1 : World} {base B : Nat} {v : Value} {l : PL} (h : RR w base v l) (hb : But B B w w1) (hB : B < base) : RR w1 base v l :=
  Kd.R_mono (Kd.R_step (Kd.R_bound h) (fun k hk hlt => hb.block k hlt (by have := hk.2.1; omega) (by have := hk.2.1; omega))) (fun _ _ => trivial)
theorem rr_cells {w : World} {base g n cap : Nat} {l : PL} (h : RR w base (.slice (some ⟨g, 0, none⟩) n cap) l) (k : Nat) (hk : k < n) (hkl : k < l.length) :
    w.rangeAt g (k * 2) [.int .i64 l[k].1, .int .i64 l[k].2] := by
  obtain ⟨c, hl, hM, hc, -⟩ := Kd.R_elem h (0, 0) (k : Int) (by omega) (by omega)
  simp only [Int.toNat_natCast] at hM hc
  rw [List.getD_eq_getElem?_getD, List.getElem?_eq_getElem hkl, Option.getD_some] at hM
  obtain ⟨c0, c1, rfl, h0, h1⟩ := hM
  have h0' : c0 = [.int .i64 l[k].1] := h0
  have h1' : c1 = [.int .i64 l[k].2] := h1
  subst h0'; subst h1'
  intro j u hu
  exact hc j u hu

/-- what stands while the first numbers are read -/
structure EK (w0 : World) (B t m : Nat) (A : Option Addr) (c : Nat) (T : Tab) (w : World) : Prop where
  tab : TB w t m A c T
  str : B < w.heap.size
  bel : Below w0.heap.size w0 w
def EB (t m : Nat) (A : Option Addr) (c : Nat) (T : Tab) (w : World) : Prop :=
  w.cell? ⟨t, 0, none⟩ = some (.int .i64 T.B) ∧ w.cell? ⟨t, 1, none⟩ = some (.int .i64 T.S) ∧ w.cell? ⟨t, 3, none⟩ = some (.slice A T.P.length c) ∧ w.cell? ⟨t, 2, none⟩ = some (.int .i64 T.u) ∧ w.cell? ⟨t, 4, none⟩ = some (.map (some m)) ∧
    ∀ ty, (Builtin.len_ #[36] ty #[.map (some m)]).run Try.prog w = .ok (.int .i64 T.M.length) w
theorem EK.body {w0 w : World} {B t m : Nat} {A : Option Addr} {c : Nat} {T : Tab} (h : EK w0 B t m A c T w) : EB t m A c T w := by
  obtain ⟨c0, c1, c2, c3, c4⟩ := h.tab.cells
  refine ⟨c0, c1, c3, c2, c4, fun ty => ?_⟩
  have := World.ownsMap.len h.tab.map Try.underlying36 ty
  rw [MD_size] at this
  exact this
theorem EK.move {w0 w w' : World} {B t m : Nat} {A : Option Addr} {c : Nat} {T : Tab} (h : EK w0 B t m A c T w) (hb : Below w.heap.size w w') : EK w0 B t m A c T w' :=
  ⟨h.tab.below hb, Nat.lt_of_lt_of_le h.str hb.size, below_step h.bel hb⟩
theorem EK.alloc {w0 w : World} {B t m : Nat} {A : Option Addr} {c : Nat} {T : Tab} (h : EK w0 B t m A c T w) (o : Obj) : EK w0 B t m A c T (w.alloc o) := h.move ((Below.refl _ _).alloc (Nat.le_refl _) _)
theorem EK.drew {w0 w : World} {B t m : Nat} {A : Option Addr} {c : Nat} {T : Tab} (h : EK w0 B t m A c T w) : EK w0 B t m A c T w.drew := h.move (below_drew (Below.refl _ _))
theorem EK.call {w0 w w1 : World} {B t m : Nat} {A : Option Addr} {c : Nat} {T : Tab} (h : EK w0 B t m A c T w) (hb : But B B w w1) (h1 : t < B) (h2 : m < B) (h3 : ∀ a, A = some a → a.block < B) (h0 : w0.heap.size = B) : EK w0 B t m A c T w1 :=
  ⟨h.tab.but1 hb h1 h2 h3, Nat.lt_of_lt_of_le h.str hb.size, But.below h.bel hb (by have := h.str; omega) (by omega) (by omega)⟩
theorem EK.all {w0 w : World} {B t m : Nat} {A : Option Addr} {c : Nat} {T : Tab} (h : EK w0 B t m A c T w) :
    w.cell? ⟨t, 0, none⟩ = some (.int .i64 T.B) ∧ w.cell? ⟨t, 1, none⟩ = some (.int .i64 T.S) ∧ w.cell? ⟨t, 3, none⟩ = some (.slice A T.P.length c) ∧ w.cell? ⟨t, 2, none⟩ = some (.int .i64 T.u) ∧ w.cell? ⟨t, 4, none⟩ = some (.map (some m)) ∧
    (∀ ty, (Builtin.len_ #[36] ty #[.map (some m)]).run Try.prog w = .ok (.int .i64 T.M.length) w) ∧ EK w0 B t m A c T w :=
  have hb := h.body
  ⟨hb.1, hb.2.1, hb.2.2.1, hb.2.2.2.1, hb.2.2.2.2.1, hb.2.2.2.2.2, h⟩
structure SK (w0 : World) (B : Nat) (l : List Int) (w : World) : Prop where
  str : SV w B l
  bel : Below w0.heap.size w0 w
theorem SK.move {w0 w w' : World} {B : Nat} {l : List Int} (h : SK w0 B l w) (hb : Below w.heap.size w w') : SK w0 B l w' := ⟨h.str.below hb, below_step h.bel hb⟩
theorem SK.drew {w0 w : World} {B : Nat} {l : List Int} (h : SK w0 B l w) : SK w0 B l w.drew := h.move (below_drew (Below.refl _ _))
theorem SK.all {w0 w : World} {B : Nat} {l : List Int} (h : SK w0 B l w) : w.cell? ⟨B, 0, none⟩ = some (.string (strOfNums l)) ∧ SK w0 B l w := ⟨h.str.cell.1, h⟩
theorem bytesOf_str (l : List Int) (h : ∀ x ∈ l, 0 ≤ x ∧ x ≤ 255) : bytesOf (strOfNums l) = l := by
  unfold bytesOf strOfNums
  rw [List.map_map]
  conv => rhs; rw [← List.map_id l]
  refine List.map_congr_left (fun x hx => ?_)
  have := h x hx
  simp only [Function.comp, id]
  simp
  omega
theorem twos_range {l : List Int} (h : ∀ x ∈ l, 0 ≤ x ∧ x < 65536) : ∀ x ∈ twosL l, 0 ≤ x ∧ x ≤ 255 := by
  intro x hx
  obtain ⟨y, hy, hx⟩ := List.mem_flatMap.1 hx
  have := h y hy
  simp only [twoS, List.mem_cons, List.not_mem_nil, or_false] at hx
  rcases hx with rfl | rfl <;> omega
theorem body_range {T : Tab} (h : WT T) : ∀ x ∈ bodyL T, 0 ≤ x ∧ x ≤ 255 := by
  have q1 := h.B
  have q2 := h.P
  have q3 := h.S
  have q4 := h.u
  have q5 := h.len
  intro x hx
  unfold bodyL at hx
  rcases List.mem_append.1 hx with hx | hx
  · rcases List.mem_append.1 hx with hx | hx
    · rcases List.mem_append.1 hx with hx | hx
      · simp only [magicL, List.mem_cons, List.not_mem_nil, or_false] at hx
        rcases hx with rfl | rfl | rfl | rfl <;> omega
      · refine twos_range (fun y hy => ?_) x hx
        simp only [List.mem_cons, List.not_mem_nil, or_false] at hy
        rcases hy with rfl | rfl | rfl | rfl | rfl <;> omega
    · exact twos_range (fun y hy => by have := h.rng y hy; omega) x hx
  · obtain ⟨y, hy, hx⟩ := List.mem_flatMap.1 hx
    have h1 := h.key y hy
    have h2 := h.val y hy
    refine twos_range (fun z hz => ?_) x hx
    simp only [List.mem_cons, List.not_mem_nil, or_false] at hz
    rcases hz with rfl | rfl <;> omega
theorem body_length {T : Tab} : (bodyL T).length = 14 + 2 * T.P.length + 4 * T.M.length := by
  unfold bodyL
  rw [List.length_append, List.length_append, List.length_append, twosL_length, twosL_length, pairsL_length]
  simp [magicL]

set_option maxRecDepth 100000 in
set_option maxHeartbeats 2000000 in
theorem encode_any (t m : Nat) (A : Option Addr) (c : Nat) (T : Tab) (w : World) (h : TB w t m A c T) (hw : WT T) :
    Calls Try.prog 23 #[.pointer (some ⟨t, 0, none⟩)] w fun e w' => e = .returned (.string (strOfNums (encL T))) ∧ Below w.heap.size w w' := by
  have q1 := hw.B
  have q2 := hw.P
  have q3 := hw.S
  have q4 := hw.u
  have q5 := hw.len
  have tlt := h.lt
  have mlt := h.map.lt
  have tA := Lib.hid (fun a e => (h.off a e).2.2)
  have HW := Lib.hid hw
  clear hw
  obtain ⟨B, hB⟩ : ∃ B, w.heap.size = B := ⟨_, rfl⟩
  go_enter Try.func23, Try.ntmps23
  go_wp2
  have hb1 : Below w.heap.size w (w.alloc (.cells #[.string ⟨#[68, 77, 84, 49]⟩] 9)) := (Below.refl _ _).alloc (Nat.le_refl _) _
  have h1 := h.below hb1
  have hS1 : SV (w.alloc (.cells #[.string ⟨#[68, 77, 84, 49]⟩] 9)) B magicL := by
    unfold SV
    rw [← hB, show strOfNums magicL = ⟨#[68, 77, 84, 49]⟩ from rfl]
    exact (MapKept.heap_alloc _ _).1
  generalize w.alloc (.cells #[.string ⟨#[68, 77, 84, 49]⟩] 9) = w1 at hb1 h1 hS1 ⊢
  rw [hB] at tlt mlt tA
  have hk : EK w B t m A c T w1 := ⟨h1, hS1.lt, hb1⟩
  have hk' := hk.body
  unfold EB at hk'
  have hlt5 := hk.str
  have hS5 : SV ((w1.alloc (.cells #[.int .i64 T.B, .int .i64 T.S, .int .i64 T.P.length, .int .i64 T.u, .int .i64 T.M.length] 3)).drew) B magicL := hS1.below (below_drew ((Below.refl _ _).alloc (Nat.le_refl _) _))
  clear h1 hS1 hb1
  have hk5 : EK w B t m A c T ((w1.alloc (.cells #[.int .i64 T.B, .int .i64 T.S, .int .i64 T.P.length, .int .i64 T.u, .int .i64 T.M.length] 3)).drew) := (hk.alloc _).drew
  have hlit : IC .i64 ((w1.alloc (.cells #[.int .i64 T.B, .int .i64 T.S, .int .i64 T.P.length, .int .i64 T.u, .int .i64 T.M.length] 3)).drew) (some ⟨w1.heap.size, 0, none⟩) [(T.B : Int), T.S, T.P.length, T.u, T.M.length] :=
    Kd.C_drew (ir_ic (ir_lit w1 w1.heap.size .i64 3 [(T.B : Int), T.S, T.P.length, T.u, T.M.length] (Nat.le_refl _) (by simp))).2.2
  have hx5 : ∀ x ∈ [(T.B : Int), T.S, T.P.length, T.u, T.M.length], 0 ≤ x ∧ x < 65536 := by
    intro x hx
    simp only [List.mem_cons, List.not_mem_nil, or_false] at hx
    rcases hx with rfl | rfl | rfl | rfl | rfl <;> omega
  have hAB5 : ∀ a : Addr, some (⟨w1.heap.size, 0, none⟩ : Addr) = some a → a.block ≠ B ∧ a.block < ((w1.alloc (.cells #[.int .i64 T.B, .int .i64 T.S, .int .i64 T.P.length, .int .i64 T.u, .int .i64 T.M.length] 3)).drew).heap.size := by
    intro a e
    injection e with e
    subst e
    refine ⟨by simp only; omega, ?_⟩
    show w1.heap.size < (w1.alloc _).heap.size
    simp
  go_region_held3 (fun w' => w'.cell? ⟨t, 0, none⟩ = some (.int .i64 T.B) ∧ w'.cell? ⟨t, 1, none⟩ = some (.int .i64 T.S) ∧ w'.cell? ⟨t, 3, none⟩ = some (.slice A T.P.length c) ∧ w'.cell? ⟨t, 2, none⟩ = some (.int .i64 T.u) ∧ w'.cell? ⟨t, 4, none⟩ = some (.map (some m)) ∧
    (∀ ty, (Builtin.len_ #[36] ty #[.map (some m)]).run Try.prog w' = .ok (.int .i64 T.M.length) w') ∧ EK w B t m A c T w')
    (exact EK.all (by first | assumption | (refine EK.drew ?_; first | assumption | (refine EK.alloc ?_ _; assumption)) | (refine EK.alloc ?_ _; assumption) | exact EK.call hk5 hbt3 tlt mlt tA.out hB))
    ((go_at_call 46; refine (enc1_any _ 5 5 [(T.B : Int), T.S, T.P.length, T.u, T.M.length] B magicL _ hlit rfl hx5 hS5 hAB5 (by simp [magicL])).mono ?_; rintro e w3 ⟨rfl, hS3, hbt3⟩))
  rename_i hHeld
  have hk3 := hHeld.2.2.2.2.2.2
  clear hHeld hk5 hlit hx5 hAB5 hS5 hbt3 hk hk' hlt5
  obtain ⟨L1, hL1⟩ : ∃ L1, magicL ++ twosL [(T.B : Int), T.S, T.P.length, T.u, T.M.length] = L1 := ⟨_, rfl⟩
  rw [hL1] at hS3
  have HL1 := Lib.hid hL1
  have l1len : L1.length ≤ 14 := by rw [← hL1]; simp [magicL, twosL, twoS]
  clear hL1
  obtain ⟨-, -, -, c3, -⟩ := hk3.tab.cells
  go_wp2_with fail
  refine (enc1_any A T.P.length c T.P B L1 _ hk3.tab.row rfl (fun x hx => by have := HW.out.rng x hx; omega) hS3 (fun a e => ⟨by have := tA.out a e; omega, (hk3.tab.off a e).2.2⟩) (by omega)).mono ?_
  rintro e w4 ⟨rfl, hS4, hbt4⟩
  have hk4 := EK.call hk3 hbt4 tlt mlt tA.out hB
  clear hk3 hbt4 hS3 c3
  obtain ⟨L2, hL2⟩ : ∃ L2, L1 ++ twosL T.P = L2 := ⟨_, rfl⟩
  rw [hL2] at hS4
  have HL2 := Lib.hid hL2
  have l2len : L2.length ≤ 526 := by rw [← hL2, List.length_append, twosL_length]; omega
  clear hL2
  go_wp2_with fail
  refine (replaced_any t m A c T _ hk4.tab HW.out).mono ?_
  rintro e w5 ⟨v5, rfl, hR5, hb5⟩
  have hk5 := hk4.move hb5
  have hS5 := hS4.below hb5
  have hbase := hk4.str
  obtain ⟨n5, hn5⟩ : ∃ n, T.M.length = n := ⟨_, rfl⟩
  obtain ⟨A5, c5, rfl, hc5, hC5⟩ := Kd.R_reads hR5
  rw [hn5] at hR5 q5 ⊢
  have HN5 := Lib.hid hn5
  clear hb5 hk4 hS4 hc5 hC5 hn5
  generalize w4.heap.size = b5 at hR5 hbase
  go_wp2
  go_loopw [42] (fun i wr => ∃ (k : Nat), k ≤ n5 ∧ i = .int .i64 k ∧ SV wr B (L2 ++ pairsL (T.M.take k)) ∧ EK w B t m A c T wr ∧ RR wr b5 (.slice A5 n5 c5) T.M) (fun i _ => n5 - (intOf i).toNat)
  case atStart => exact ⟨0, by omega, rfl, by simpa [pairsL] using hS5, hk5, hR5⟩
  clear hk5 hS5 hR5
  case round =>
    obtain ⟨k, hk, rfl, hS, hkk, hR⟩ := hrel
    by_cases hlt : k < n5
    · have hkl : k < T.M.length := by rw [HN5.out]; exact hlt
      have hA5 : ∃ g, A5 = some ⟨g, 0, none⟩ := by
        obtain ⟨g, cap, he, -⟩ := Kd.R_form hR (by omega)
        injection he with he
        exact ⟨g, he⟩
      obtain ⟨g5, rfl⟩ := hA5
      have hrg := rr_cells hR k hlt hkl
      have hkey := HW.out.key _ (List.getElem_mem hkl)
      have hval := HW.out.val _ (List.getElem_mem hkl)
      have HT : Hid (T.M.take (k + 1) = T.M.take k ++ [T.M[k]]) := Lib.hid (by rw [List.take_add_one, List.getElem?_eq_getElem hkl]; rfl)
      obtain ⟨x, hx⟩ : ∃ x, T.M[k] = x := ⟨_, rfl⟩
      rw [hx] at hrg hkey hval HT
      obtain ⟨xa, xb⟩ := x
      simp only at hrg hkey hval
      clear hx hkl
      go_wp2_with (refine wpList_load_mid rfl 53 _ rfl g5 (k * 2) rfl [.int .i64 xa, .int .i64 xb] _ hrg Try.underlying53 rfl (by kernel_rfl) ?_)
      have hbb : Below wr.heap.size wr ((wr.alloc (.cells #[.int .i64 xa, .int .i64 xb] 53)).alloc (.cells #[.int .i64 xa, .int .i64 xb] 3)) := ((Below.refl _ _).alloc (Nat.le_refl _) _).alloc (by simp) _
      have hC6 := (ir_ic (ir_lit (wr.alloc (.cells #[.int .i64 xa, .int .i64 xb] 53)) 0 .i64 3 [xa, xb] (by omega) (by simp))).2.2
      rw [show (wr.alloc (.cells #[.int .i64 xa, .int .i64 xb] 53)).heap.size = wr.heap.size + 1 by simp] at hC6
      have hk6 := hkk.move hbb
      have hS6 := hS.below hbb
      have hR6 := Kd.R_below hR hbb
      have hlt6 := hkk.str
      have hln : (L2 ++ pairsL (T.M.take k)).length ≤ 1000 := by rw [List.length_append, pairsL_length, List.length_take]; omega
      obtain ⟨z, hz⟩ : ∃ z, L2 ++ pairsL (T.M.take k) = z := ⟨_, rfl⟩
      rw [hz] at hS6 hln
      have HZ : Hid (L2 ++ pairsL (T.M.take (k + 1)) = z ++ twosL [xa, xb]) := Lib.hid (by rw [HT.out, pairsL_snoc, ← List.append_assoc, hz])
      clear hkk hS hR hbb hz
      refine (enc1_any (some ⟨wr.heap.size + 1, 0, none⟩) 2 2 [xa, xb] B z _ hC6 rfl (fun y hy => by simp only [List.mem_cons, List.not_mem_nil, or_false] at hy; rcases hy with rfl | rfl <;> omega) hS6 (fun a e => by injection e with e; subst e; exact ⟨by simp only; omega, by simp⟩) (by omega)).mono ?_
      rintro e w7 ⟨rfl, hS7, hbt7⟩
      have hk7 := EK.call hk6 hbt7 tlt mlt tA.out hB
      have hR7 := rr_but hR6 hbt7 hbase
      clear hk6 hS6 hR6 hC6 hbt7
      go_wp2
      go_roundw
      case rel => exact ⟨k + 1, by omega, by go_num, by rw [HZ.out]; exact hS7, hk7, hR7⟩
      case measure => simp [intOf]; omega
    · obtain rfl : k = n5 := by omega
      have hfull : L2 ++ pairsL (T.M.take k) = bodyL T := by
        rw [List.take_of_length_le (by rw [HN5.out]; omega), ← HL2.out, ← HL1.out]; rfl
      rw [hfull] at hS
      have hsk : SK w B (bodyL T) wr := ⟨hS, hkk.bel⟩
      have hbl := body_length (T := T)
      have hsz : (strOfNums (bodyL T)).size ≤ 1000000 := by rw [str_size, hbl, HN5.out]; omega
      have HBO := Lib.hid (bytesOf_str (bodyL T) (body_range HW.out))
      have hcr := crcS_range (bodyL T)
      have HCR := Lib.hid hcr
      have HEN : Hid (strOfNums (encL T) = strOfNums (bodyL T) ++ strOfNums (twoS (crcS (bodyL T)))) := Lib.hid (by unfold encL; exact str_append _ _)
      have hsz2 : (strOfNums (bodyL T)).size + (strOfNums (twoS (crcS (bodyL T)))).size ≤ 9223372036854775807 := by rw [str_size, str_size, hbl, HN5.out]; simp [twoS]; omega
      clear hS hR hkk hfull hcr hbl
      obtain ⟨L, hL⟩ : ∃ L, bodyL T = L := ⟨_, rfl⟩
      rw [hL] at hsk hsz HBO HCR HEN hsz2
      clear hL
      go_wp2
      have hsc := hsk.all
      have hsz3 : ¬ 9223372036854775807 < (strOfNums L).size + (strOfNums (twoS (crcS L))).size := by omega
      go_region_held3 (fun w' => w'.cell? ⟨B, 0, none⟩ = some (.string (strOfNums L)) ∧ SK w B L w')
        (exact SK.all (by first | assumption | (refine SK.drew ?_; assumption) | exact SK.move (SK.move (SK.drew hsk) hb8) hb9 | exact SK.move (SK.drew hsk) hb8))
        (first | (go_at_call 44; refine (crc16_any (strOfNums L) hsz _).mono ?_; rw [HBO.out]; rintro e w8 ⟨rfl, hb8⟩) | (go_at_call 43; refine (crcBytes_any (crcS L) HCR.out _).mono ?_; rintro e w9 ⟨rfl, hb9⟩))
      go_wp2
      go_ret
      exact ⟨by rw [HEN.out]; rfl, (SK.move (SK.move (SK.drew hsk) hb8) hb9).bel⟩
end Go.Proofs.Ytlifinlideiloaa
