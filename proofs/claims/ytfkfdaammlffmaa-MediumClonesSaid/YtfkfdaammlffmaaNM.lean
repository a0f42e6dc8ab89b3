import Derived.Test.YtfkfdaammlffmaaNI
/-! Calls of a medium as data: a call, many calls; whether they are few; a call is done. -/
namespace Go.Proofs.Ytfkfdaammlffmaa
set_option linter.unusedVariables false
set_option linter.unusedSimpArgs false
open Go.RowKit Go.Proofs
open Go.Proofs.YtfkfdaammlffmaaW.PrintWords

/-- a call: its numbers, its scratches, its damage (with the slices' addresses and capacities) -/
structure ActD where
  kind : Int
  at_ : Int
  byte : Int
  short : Bool
  sA : Option Addr
  sc : Nat
  sl : PL
  lba : Int
  eA : Option Addr
  ec : Nat
  el : List Int
  cA : Option Addr
  cc : Nat
  cl : PL
def ActD.cells (a : ActD) : Array Value := #[.int .i64 a.kind, .int .i64 a.at_, .int .i64 a.byte, .bool a.short, .slice a.sA a.sl.length a.sc, .int .i64 a.lba, .slice a.eA a.el.length a.ec, .slice a.cA a.cl.length a.cc]
structure ActOk (w : World) (a : ActD) : Prop where
  s : PC w a.sA a.sl
  e : IC .i64 w a.eA a.el
  c : PC w a.cA a.cl
theorem ActOk.below {w w' : World} {a : ActD} (h : ActOk w a) (hb : Below w.heap.size w w') : ActOk w' a := ⟨Kd.C_below h.s hb, ic_below h.e hb, Kd.C_below h.c hb⟩
/-- few and small -/
def ActD.small (a : ActD) : Bool := decide (a.sl.length ≤ 8) && decide (a.el.length ≤ 200) && decide (a.cl.length ≤ 200)
def fewS (l : List ActD) : Bool := l.all ActD.small && decide (l.length ≤ 40)
def actRaw (a : ActD) : ByteArray := strOfNums (rawL a.byte (if a.short then 2351 else 2352))
def actP (M : Med) (a : ActD) : Med × Int :=
  if a.kind = 0 then recM M a.at_ (actRaw a) else if a.kind = 1 then tearM M a.at_ else if a.kind = 2 then eraM M a.at_ else if a.kind = 3 then scrM M a.sl else damM M a.lba a.el a.cl
theorem actP_wm {N : Nat} {M : Med} (h : WM N M) (a : ActD) : WM (N + 1) (actP M a).1 := by
  unfold actP
  split
  · exact recM_wm h _ _
  · split
    · exact tearM_wm h _
    · split
      · exact (eraM_wm h _).mono (by omega)
      · split
        · exact (scrM_wm h _).mono (by omega)
        · exact (damM_wm h _ _ _).mono (by omega)
/-- many calls, one after the other -/
def actsP (M : Med) (l : List ActD) : Med := l.foldl (fun M a => (actP M a).1) M
theorem actsP_snoc (M : Med) (l : List ActD) (a : ActD) : actsP M (l ++ [a]) = (actP (actsP M l) a).1 := by unfold actsP; rw [List.foldl_append]; rfl
theorem actsP_wm {N : Nat} {M : Med} (h : WM N M) : ∀ (l : List ActD), WM (N + l.length) (actsP M l) := by
  intro l
  induction l generalizing M N with
  | nil => exact h
  | cons a l ih =>
    have := ih (actP_wm h a)
    rw [List.length_cons, show N + (l.length + 1) = N + 1 + l.length by omega]
    exact this
/-- a slice of calls -/
structure ActsAt (w : World) (A : Option Addr) (l : List ActD) : Prop where
  max : l.length ≤ 9223372036854775807
  cell : ∀ j (hj : j < l.length), ∃ b o, A = some ⟨b, o, none⟩ ∧ b < w.heap.size ∧ ∀ i (hi : i < 8), w.cell? ⟨b, o + j * 8 + i, none⟩ = some ((l[j]).cells[i]'(by simpa [ActD.cells] using hi))
  ok : ∀ a ∈ l, ActOk w a
theorem ActsAt.below {w w' : World} {A : Option Addr} {l : List ActD} (h : ActsAt w A l) (hb : Below w.heap.size w w') : ActsAt w' A l := by
  refine ⟨h.max, fun j hj => ?_, fun a ha => (h.ok a ha).below hb⟩
  obtain ⟨b, o, e, hlt, hc⟩ := h.cell j hj
  exact ⟨b, o, e, Nat.lt_of_lt_of_le hlt hb.size, fun i hi => (hb.cell (p := ⟨b, o + j * 8 + i, none⟩) hlt).trans (hc i hi)⟩
/-- the eight cells of a call, one by one -/
theorem ActsAt.cells8 {w : World} {A : Option Addr} {l : List ActD} (h : ActsAt w A l) {j : Nat} (hj : j < l.length) {a : ActD} (ha : l[j] = a) :
    ∃ b o, A = some ⟨b, o, none⟩ ∧ w.cell? ⟨b, o + j * 8, none⟩ = some (.int .i64 a.kind) ∧ w.cell? ⟨b, o + j * 8 + 1, none⟩ = some (.int .i64 a.at_) ∧ w.cell? ⟨b, o + j * 8 + 2, none⟩ = some (.int .i64 a.byte) ∧ w.cell? ⟨b, o + j * 8 + 3, none⟩ = some (.bool a.short) ∧
      w.cell? ⟨b, o + j * 8 + 4, none⟩ = some (.slice a.sA a.sl.length a.sc) ∧ w.cell? ⟨b, o + j * 8 + 5, none⟩ = some (.int .i64 a.lba) ∧ w.cell? ⟨b, o + j * 8 + 6, none⟩ = some (.slice a.eA a.el.length a.ec) ∧ w.cell? ⟨b, o + j * 8 + 7, none⟩ = some (.slice a.cA a.cl.length a.cc) := by
  obtain ⟨b, o, e, -, hc⟩ := h.cell j hj
  subst ha
  exact ⟨b, o, e, hc 0 (by decide), hc 1 (by decide), hc 2 (by decide), hc 3 (by decide), hc 4 (by decide), hc 5 (by decide), hc 6 (by decide), hc 7 (by decide)⟩

set_option maxRecDepth 100000 in
set_option maxHeartbeats 2000000 in
theorem few_any (A : Option Addr) (n c : Nat) (l : List ActD) (w : World) (h : ActsAt w A l) (hn : l.length = n) (b : Bool) (hb : fewS l = b) :
    Calls Try.prog 21 #[.slice A n c] w fun e w' => e = .returned (.bool b) ∧ w = w' := by
  have hmax : n ≤ 9223372036854775807 := by rw [← hn]; exact h.max
  have HN := Lib.hid hn
  have HB := Lib.hid hb
  have H := Lib.hid h
  clear hn hb h
  go_enter Try.func21, Try.ntmps21
  go_wp2
  go_loop [3] (fun i => ∃ k : Nat, k ≤ n ∧ i = .int .i64 k ∧ Hid (∀ j (hj : j < l.length), j < k → (l[j]).small = true)) (fun i => n - (Go.RowKit.intOf i).toNat)
  case atStart => exact ⟨0, by omega, rfl, Lib.hid (fun j hj hk => by omega)⟩
  case round =>
    obtain ⟨k, hk, rfl, hok⟩ := hrel
    by_cases hlt : k < n
    · have hkl : k < l.length := by rw [HN.out]; exact hlt
      obtain ⟨a, ha⟩ : ∃ a, l[k] = a := ⟨_, rfl⟩
      obtain ⟨b0, o0, rfl, c0, c1, c2, c3, c4, c5, c6, c7⟩ := H.out.cells8 hkl ha
      have hkn : (k : Int) < n := by omega
      obtain ⟨x1, hx1⟩ : ∃ x, a.sl.length = x := ⟨_, rfl⟩
      obtain ⟨x2, hx2⟩ : ∃ x, a.el.length = x := ⟨_, rfl⟩
      obtain ⟨x3, hx3⟩ : ∃ x, a.cl.length = x := ⟨_, rfl⟩
      rw [hx1] at c4
      rw [hx2] at c6
      rw [hx3] at c7
      have hbad : a.small = false → Hid (b = false) := fun h => Lib.hid (by
        rw [← HB.out]
        unfold fewS
        have : l.all ActD.small = false := by
          rw [List.all_eq_false]
          exact ⟨_, List.getElem_mem hkl, by rw [ha, h]; simp⟩
        rw [this, Bool.false_and])
      by_cases g1 : 8 < x1
      · have HB2 := hbad (by unfold ActD.small; rw [hx1]; simp; omega)
        have g1' : (8 : Int) < x1 := by omega
        clear hbad hx1 hx2 hx3 ha hok
        go_wp2
        go_ret
        exact ⟨by rw [HB2.out] <;> rfl, rfl⟩
      · have g1' : (x1 : Int) ≤ 8 := by omega
        by_cases g2 : 200 < x2
        · have HB2 := hbad (by unfold ActD.small; rw [hx2]; simp; omega)
          have g2' : (200 : Int) < x2 := by omega
          clear hbad hx1 hx2 hx3 ha hok g1
          go_wp2
          go_ret
          exact ⟨by rw [HB2.out] <;> rfl, rfl⟩
        · have g2' : (x2 : Int) ≤ 200 := by omega
          by_cases g3 : 200 < x3
          · have HB2 := hbad (by unfold ActD.small; rw [hx3]; simp; omega)
            have g3' : (200 : Int) < x3 := by omega
            clear hbad hx1 hx2 hx3 ha hok g1 g2
            go_wp2
            go_ret
            exact ⟨by rw [HB2.out] <;> rfl, rfl⟩
          · have g3' : (x3 : Int) ≤ 200 := by omega
            have HOK : Hid (∀ j (hj : j < l.length), j < k + 1 → (l[j]).small = true) := Lib.hid (fun j hj hjk => by
              by_cases e : j = k
              · subst e
                rw [ha]
                unfold ActD.small
                rw [hx1, hx2, hx3]
                simp; omega
              · exact hok.out j hj (by omega))
            clear hbad hx1 hx2 hx3 ha hok g1 g2 g3
            go_wp2
            go_round
            case rel => exact ⟨k + 1, by omega, by go_num, HOK⟩
            case measure => simp [Go.RowKit.intOf]; omega
    · obtain rfl : n = k := by omega
      have hall : l.all ActD.small = true := List.all_eq_true.2 (fun x hx => by
        obtain ⟨j, hj, rfl⟩ := List.getElem_of_mem hx
        exact hok.out j hj (by rw [← HN.out]; exact hj))
      by_cases g : n ≤ 40
      · have HB2 : Hid (b = true) := Lib.hid (by rw [← HB.out]; unfold fewS; rw [hall, HN.out]; simp [g])
        have g' : (n : Int) ≤ 40 := by omega
        clear hall hok
        go_wp2
        go_ret
        exact ⟨by rw [HB2.out] <;> simp [g], rfl⟩
      · have HB2 : Hid (b = false) := Lib.hid (by rw [← HB.out]; unfold fewS; rw [hall, HN.out]; simp; omega)
        have g' : (40 : Int) < n := by omega
        clear hall hok
        go_wp2
        go_ret
        exact ⟨by rw [HB2.out] <;> simp; omega, rfl⟩
end Go.Proofs.Ytfkfdaammlffmaa
