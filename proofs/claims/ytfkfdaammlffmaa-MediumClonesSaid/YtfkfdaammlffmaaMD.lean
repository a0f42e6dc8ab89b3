import Derived.Test.YtfkfdaammlffmaaMC
import Derived.Deep.MidRow
/-! circ.Lost, walked. -/
namespace Go.Proofs.Ytfkfdaammlffmaa
set_option linter.unusedVariables false
set_option linter.unusedSimpArgs false
open Go.RowKit Go.Proofs
open Go.Proofs.YtfkfdaammlffmaaW.PrintWords

abbrev KdP : Kd (Int × Int) := Kd.pair (Kd.int .i64) (Kd.int .i64)
abbrev PC (w : World) (A : Option Addr) (l : PL) : Prop := KdP.C w A l.length l
/-- frames that the first k scratches erase -/
def goneS (l : PL) (n k : Nat) : List Bool := (l.take k).foldl (fun g s => setS g s.1.toNat s.2.toNat) (List.replicate n false)
theorem goneS_length (l : PL) (n k : Nat) : (goneS l n k).length = n := by
  unfold goneS
  have : ∀ (l : PL) (g : List Bool), (l.foldl (fun g s => setS g s.1.toNat s.2.toNat) g).length = g.length := fun l => by
    induction l with
    | nil => intro g; rfl
    | cons x l ih => intro g; rw [List.foldl_cons, ih, setS_length]
  rw [this, List.length_replicate]
theorem goneS_succ (l : PL) (n k : Nat) (h : k < l.length) : goneS l n (k + 1) = setS (goneS l n k) (l[k]).1.toNat (l[k]).2.toNat := by
  unfold goneS
  rw [List.take_add_one, List.getElem?_eq_getElem h, Option.toList_some, List.foldl_append]
  rfl
/-- a word that is not touched has no symbol that is gone -/
def InvT (gn tl : List Bool) (n : Nat) : Prop := tl.length = n ∧ ∀ f, f < n → tl.getD f false = false → ∀ i, i < 28 → gn.getD (f + 4 * i) false = false
theorem inv_start (n m : Nat) : InvT (List.replicate m false) (List.replicate n false) n := by
  refine ⟨by simp, fun f hf _ i hi => ?_⟩
  rw [List.getD_eq_getElem?_getD, List.getElem?_replicate]
  split <;> rfl
theorem inv_step {gn tl : List Bool} {n a k a0 d : Nat} (h : InvT gn tl n) (h1 : a0 = a - 108) (h2 : a0 + d = min n (a + k) ∨ (d = 0 ∧ min n (a + k) ≤ a0)) : InvT (setS gn a k) (setS tl a0 d) n := by
  refine ⟨by rw [setS_length]; exact h.1, fun f hf ht i hi => ?_⟩
  rw [setS_getD] at ht ⊢
  simp only [Bool.or_eq_false_iff] at ht
  rw [h.2 f hf ht.1 i hi, Bool.false_or]
  have ht2 := ht.2
  rw [h.1] at ht2
  by_cases hin : a ≤ f + 4 * i ∧ f + 4 * i < a + k
  · exfalso
    have e1 : a0 ≤ f := by omega
    have e2 : f < a0 + d := by omega
    simp [hf, e1, e2] at ht2
  · simp; omega

section
variable {P : Program} {ops : Array Oper} {rest : List Oper} {o : Oper} {a : Act} {Q : Exit → Act → World → Prop}
abbrev BR (w : World) (base : Nat) (v : Value) (xs : List Bool) : Prop := Kd.bool.R 4 w base Any v xs
theorem br_make {w0 W : World} (base : Nat) (t : Nat) (hinfo : (P.info? 4).map (fun i => (i.zero, i.size, i.bytes)) = some (some (.bool false), 1, 1)) (ht : P.underlying t = some (.slice 4))
    (hgd : o.guard = none) {N : Tmp} (hd : o.dst = some N) (x y : Operand) (ho : o.op = .makeSlice t x y) (n : Int) (hx : a.eval x = .int .i64 n) (hy : a.eval y = .int .i64 n)
    (h0 : 0 ≤ n) (hl : n.toNat * 1 ≤ 281474976710656) (HB : Below base w0 W) (hbase : base ≤ W.heap.size)
    (h : ∀ v1 w1, BR w1 base v1 (List.replicate n.toNat false) → Below base w0 w1 → Below W.heap.size W w1 → wpList P ops Q rest (a.put o.dst v1) w1) : wpList P ops Q (o :: rest) a W :=
  Kd.R_make Kd.bool base 4 hgd hd t x y ho n hx hy ht _ 1 hinfo rfl (show 0 < 1 by decide) (by decide) false (ok := Any) (okp := fun _ => False) rfl (fun _ h => h.elim) trivial h0 hl HB hbase
    (fun v1 w1 h1 h2 h3 _ => h v1 w1 h1 h2 ⟨h3.os, h3.tape, h3.output, h3.size, fun i hi => h3.block i hi (by simp)⟩)
theorem br_slice {w : World} {base : Nat} {v : Value} {xs : List Bool} (h : BR w base v xs) {n : Nat} (hn : xs.length = n) (hp : 0 < n) : ∃ g c, v = .slice (some ⟨g, 0, none⟩) n c ∧ base ≤ g ∧ g < w.heap.size := by
  obtain ⟨g, c, rfl, hg, hlt, -⟩ := Kd.R_form h (by omega)
  exact ⟨g, c, by rw [hn], hg, hlt⟩
theorem br_cell {base g n cap : Nat} {w : World} {xs : List Bool} (h : BR w base (.slice (some ⟨g, 0, none⟩) n cap) xs) (j : Nat) (hj : j < n) :
    w.cell? ⟨g, j, none⟩ = some (.bool (xs.getD j false)) ∧ w.frozen? ⟨g, j, none⟩ = false := by
  have := Kd.R_celln (enc := Value.bool) (h1 := fun _ => rfl) false h (j : Int) (by omega) (by omega)
  simp only [Int.toNat_natCast] at this
  exact this
theorem br_put {base g n cap : Nat} {w : World} {xs : List Bool} (h : BR w base (.slice (some ⟨g, 0, none⟩) n cap) xs) (j : Nat) (x : Bool) :
    BR (w.setCell ⟨g, j, none⟩ (.bool x)) base (.slice (some ⟨g, 0, none⟩) n cap) (xs.set j x) := by
  have := Kd.R_putn (enc := Value.bool) (h1 := fun _ => rfl) h (j : Int) x
  simp only [Int.toNat_natCast] at this
  exact this
theorem br_of_block {base : Nat} {w w' : World} {v : Value} {xs : List Bool} (h : BR w base v xs) (hb : ∀ g, v.ownBlock = some g → w'.heap[g]? = w.heap[g]?) : BR w' base v xs :=
  by
    obtain ⟨h1, inn, ho2, hr⟩ := h
    exact ⟨h1, inn, own_move ho2 hb, hr⟩
end
theorem pc_cell {w : World} {A : Option Addr} {l : PL} (h : PC w A l) (j : Nat) (hj : j < l.length) :
    ∃ b o, A = some ⟨b, o, none⟩ ∧ b < w.heap.size ∧ w.cell? ⟨b, o + j * 2, none⟩ = some (.int .i64 (l[j]).1) ∧ w.cell? ⟨b, o + j * 2 + 1, none⟩ = some (.int .i64 (l[j]).2) := by
  obtain ⟨ad, c, rfl, hc, hK, hat⟩ := Kd.C_get h (0, 0) (j : Int) (by omega) (by omega)
  obtain ⟨c0, c1, rfl, h0, h1⟩ := hK
  rw [Int.toNat_natCast] at h0 h1 hat
  have hx : l.getD j (0, 0) = l[j] := by simp [List.getD_eq_getElem?_getD, hj]
  rw [hx] at h0 h1
  have e0 : c0 = [.int .i64 (l[j]).1] := h0
  have e1 : c1 = [.int .i64 (l[j]).2] := h1
  subst e0; subst e1
  have k0 : w.cell? (ad.add (j * 2)) = some (.int .i64 (l[j]).1) := hat 0 _ rfl
  have k1 : w.cell? (ad.add (j * 2 + 1)) = some (.int .i64 (l[j]).2) := hat 1 _ rfl
  obtain ⟨b, o, sp⟩ := ad
  have hs : sp = none := by
    cases sp with
    | none => rfl
    | some x =>
      exfalso
      obtain ⟨ad', c', e', hc', hK', hat'⟩ := Kd.C_get h (0, 0) (0 : Int) (by omega) (by omega)
      injection e' with e'
      subst e'
      obtain ⟨d0, d1, rfl, h0', h1'⟩ := hK'
      have e0 : d0 = [.int .i64 (l.getD (0 : Int).toNat (0, 0)).1] := h0'
      subst e0
      have k2 : w.cell? ((⟨b, o, some x⟩ : Addr).add 0) = some (.int .i64 (l.getD (0 : Int).toNat (0, 0)).1) := hat' 0 _ rfl
      have e2 : (⟨b, o, some x⟩ : Addr).add 0 = ⟨b, o, some x⟩ := by unfold Addr.add; simp
      rw [e2] at k2
      unfold World.cell? at k2
      split at k2
      · simp at k2
      · cases k2
  subst hs
  rw [Addr.add_mid] at k0 k1
  exact ⟨b, o, rfl, World.block_lt_of_cell? w _ k0, k0, by rw [Nat.add_assoc]; exact k1⟩
end Go.Proofs.Ytfkfdaammlffmaa
