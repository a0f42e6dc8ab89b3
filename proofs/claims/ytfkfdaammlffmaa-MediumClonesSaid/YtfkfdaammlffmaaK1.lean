import Derived.Test.YtfkfdaammlffmaaK0
import Derived.Test.YtfkfdaammlffmaaWWords
/-! Rows of whole numbers: make, append, cut, as arms of a walk. -/
namespace Go.Proofs.Ytfkfdaammlffmaa
set_option linter.unusedVariables false
set_option linter.unusedSimpArgs false
open Go.RowKit
open Go.Proofs.YtfkfdaammlffmaaW.PrintWords
theorem bits_xor_nat (k : IntKind) (j : Nat) (hj : j ≤ k.bits) (hk : ∀ n : Int, 0 ≤ n → n < 2 ^ j → k.wrap n = n) (a b : Nat) (ha : a < 2 ^ j) (hb : b < 2 ^ j) :
    Go.bits .xor k a b = ((a ^^^ b : Nat) : Int) := by
  have hp : 2 ^ j ≤ 2 ^ k.bits := Nat.pow_le_pow_right (by decide) hj
  have ha' : a % 2 ^ k.bits = a := Nat.mod_eq_of_lt (Nat.lt_of_lt_of_le ha hp)
  have hb' : b % 2 ^ k.bits = b := Nat.mod_eq_of_lt (Nat.lt_of_lt_of_le hb hp)
  have cast : ∀ n : Nat, n < 2 ^ j → ((n : Nat) : Int) < 2 ^ j := fun n h => by exact_mod_cast h
  simp only [Go.bits, BitVec.ofInt_natCast, BitVec.toNat_xor, BitVec.toNat_ofNat, ha', hb']
  exact hk _ (Int.natCast_nonneg _) (cast _ (Nat.xor_lt_two_pow ha hb))
section
variable {P : Program} {ops : Array Oper} {rest : List Oper} {o : Oper} {a : Act} {Q : Exit → Act → World → Prop}
def Any (_ : Nat) : Prop := True
abbrev IR (k : IntKind) (e : Nat) (w : World) (base : Nat) (v : Value) (xs : List Int) : Prop := (Kd.int k).R e w base Any v xs
abbrev IC (k : IntKind) (w : World) (A : Option Addr) (xs : List Int) : Prop := (Kd.int k).C w A xs.length xs

/-- make([]T, n) -/
theorem ir_make {w0 W : World} (base : Nat) (k : IntKind) (bytes : Nat) (e t : Nat) (hinfo : (P.info? e).map (fun i => (i.zero, i.size, i.bytes)) = some (some (.int k 0), 1, bytes)) (ht : P.underlying t = some (.slice e))
    (hb0 : 0 < bytes) (hgd : o.guard = none) {N : Tmp} (hd : o.dst = some N) (x y : Operand) (ho : o.op = .makeSlice t x y) (n : Int) (hx : a.eval x = .int .i64 n) (hy : a.eval y = .int .i64 n)
    (h0 : 0 ≤ n) (hl : n.toNat * bytes ≤ 281474976710656) (HB : Below base w0 W) (hbase : base ≤ W.heap.size)
    (h : ∀ v1 w1, IR k e w1 base v1 (List.replicate n.toNat 0) → Below base w0 w1 → Below W.heap.size W w1 → wpList P ops Q rest (a.put o.dst v1) w1) : wpList P ops Q (o :: rest) a W :=
  Kd.R_make (Kd.int k) base e hgd hd t x y ho n hx hy ht _ bytes hinfo rfl (show 0 < 1 by decide) hb0 0 (ok := Any) (okp := fun _ => False) rfl (fun _ h => h.elim) trivial h0 hl HB hbase
    (fun v1 w1 h1 h2 h3 _ => h v1 w1 h1 h2 ⟨h3.os, h3.tape, h3.output, h3.size, fun i hi => h3.block i hi (by simp)⟩)

/-- append(v, ys...) -/
theorem ir_append {w0 W : World} (base : Nat) (k : IntKind) (bytes : Nat) (e t : Nat) (hinfo : (P.info? e).map (fun i => (i.zero, i.size, i.bytes)) = some (some (.int k 0), 1, bytes)) (ht : P.underlying t = some (.slice e))
    (hb0 : 0 < bytes) (hgd : o.guard = none) (s x : Operand) (ho : o.op = .call { callee := .builtin .append, args := #[s, x], argTypes := #[t, t] })
    (v : Value) (xs ys : List Int) (A : Option Addr) (n c : Nat) (hs : a.eval s = v) (hx : a.eval x = .slice A n c) (hn : ys.length = n)
    (HO : IR k e W base v xs) (HR : IC k W A ys) (HB : Below base w0 W) (hbase : base ≤ W.heap.size) (hl : (xs.length + ys.length) * bytes ≤ 140737488355328)
    (h : ∀ v1 w1, IR k e w1 base v1 (xs ++ ys) → Below base w0 w1 → W.grownBy w1 v.ownBlock → wpList P ops Q rest (a.put o.dst v1) w1) : wpList P ops Q (o :: rest) a W :=
  Kd.R_append_rows (Kd.int k) (Rr := (Kd.int k).K W) base hgd s x t e _ bytes ho ht hinfo rfl (show 0 < 1 by decide) hb0 v xs ys A n c Any (fun _ => False) hs hx HO (by rw [← hn]; exact HR) (fun _ _ h => h) (fun _ h => h.elim) (fun _ _ => trivial) HB hbase (by rw [← hn]; exact hl)
    (fun v1 w1 h1 h2 h3 _ => h v1 w1 h1 h2 h3)

theorem ir_form {k : IntKind} {e base : Nat} {w : World} {v : Value} {xs : List Int} (h : IR k e w base v xs) (hp : 0 < xs.length) :
    ∃ g cap, v = .slice (some ⟨g, 0, none⟩) xs.length cap ∧ base ≤ g ∧ xs.length ≤ cap := by
  obtain ⟨g, cap, rfl, hg, _⟩ := Kd.R_form h hp
  obtain ⟨_, hc, _⟩ := Kd.R_reads' h
  exact ⟨g, cap, rfl, hg, hc⟩
theorem ir_reads {k : IntKind} {e base : Nat} {w : World} {v : Value} {xs : List Int} (h : IR k e w base v xs) :
    ∃ A c, v = .slice A xs.length c ∧ xs.length ≤ c ∧ IC k w A xs := Kd.R_reads h
theorem ir_slice {k : IntKind} {e base : Nat} {w : World} {v : Value} {xs : List Int} (h : IR k e w base v xs) {n : Nat} (hn : xs.length = n) :
    ∃ A c, v = .slice A n c ∧ n ≤ c := by
  obtain ⟨A, c, rfl, hc, _⟩ := Kd.R_reads h
  exact ⟨A, c, by rw [hn], by omega⟩
theorem ir_some {k : IntKind} {e base n c : Nat} {w : World} {A : Option Addr} {xs : List Int} (h : IR k e w base (.slice A n c) xs) (hp : 0 < n) :
    ∃ g, A = some ⟨g, 0, none⟩ ∧ base ≤ g := by
  obtain ⟨h1, _, _⟩ := Kd.R_reads' h
  obtain ⟨g, cap, he, hg, _⟩ := Kd.R_form h (by omega)
  injection he with he
  exact ⟨g, he, hg⟩
theorem ir_ic {k : IntKind} {e base n c : Nat} {w : World} {A : Option Addr} {xs : List Int} (h : IR k e w base (.slice A n c) xs) : xs.length = n ∧ n ≤ c ∧ IC k w A xs := by
  obtain ⟨h1, h2, h3⟩ := Kd.R_reads' h
  exact ⟨h1.symm, h2, h3⟩
theorem ir_nil (k : IntKind) (e : Nat) (w : World) (base : Nat) : IR k e w base (.slice none 0 0) [] := Kd.R_nil _ _ _ _ _
theorem ir_below {k : IntKind} {e base : Nat} {w w1 : World} {v : Value} {xs : List Int} (h : IR k e w base v xs) (hb : Below w.heap.size w w1) : IR k e w1 base v xs := Kd.R_below h hb
theorem ir_lower {k : IntKind} {e base base' : Nat} {w : World} {v : Value} {xs : List Int} (h : IR k e w base v xs) (hb : base' ≤ base) : IR k e w base' v xs := Kd.R_lower h hb
theorem ic_below {k : IntKind} {w w1 : World} {A : Option Addr} {xs : List Int} (h : IC k w A xs) (hb : Below w.heap.size w w1) : IC k w1 A xs := Kd.C_below h hb
/-- a cell of a row of one's own, and that it may be written -/
theorem ir_cell {k : IntKind} {e base g n cap : Nat} {w : World} {xs : List Int} (h : IR k e w base (.slice (some ⟨g, 0, none⟩) n cap) xs) (j : Nat) (hj : j < n) :
    w.cell? ⟨g, j, none⟩ = some (.int k (rd xs j)) ∧ w.frozen? ⟨g, j, none⟩ = false := by
  have := Kd.R_celln (enc := Value.int k) (h1 := fun _ => rfl) 0 h (j : Int) (by omega) (by omega)
  simp only [Int.toNat_natCast] at this
  exact this
theorem ir_put {k : IntKind} {e base g n cap : Nat} {w : World} {xs : List Int} (h : IR k e w base (.slice (some ⟨g, 0, none⟩) n cap) xs) (j : Nat) (x : Int) :
    IR k e (w.setCell ⟨g, j, none⟩ (.int k x)) base (.slice (some ⟨g, 0, none⟩) n cap) (xs.set j x) := by
  have := Kd.R_putn (enc := Value.int k) (h1 := fun _ => rfl) h (j : Int) x
  simp only [Int.toNat_natCast] at this
  exact this
theorem ic_cell {k : IntKind} {w : World} {A : Option Addr} {xs : List Int} (h : IC k w A xs) (j : Nat) (hj : j < xs.length) :
    ∃ ad, A = some ad ∧ w.cell? (ad.add j) = some (.int k (rd xs j)) := by
  obtain ⟨ad, rfl, hc⟩ := Kd.at_int h (j : Int) (by omega) (by omega)
  exact ⟨ad, rfl, by simpa using hc⟩
theorem ic_max {k : IntKind} {w : World} {A : Option Addr} {xs : List Int} (h : IC k w A xs) : xs.length ≤ 9223372036854775807 := Kd.C_max h

/-- string(b) -/
theorem ic_string (src dst e : TypeId) (hs : P.underlying src = some (.slice e)) (he : P.underlying e = some (.int .u8)) (hd : P.underlying dst = some .string)
    {w : World} {A : Option Addr} {xs : List Int} (h : IC .u8 w A xs) (n c : Nat) (hn : xs.length = n) : (convert src dst (.slice A n c)).run P w = .ok (.string (strOfNums xs)) w := by
  subst hn; exact Kd.C_string hs he hd h

/-- []T{..} -/
theorem ir_lit (W : World) (base : Nat) (k : IntKind) (e : Nat) (xs : List Int) (hb : base ≤ W.heap.size) (hm : xs.length ≤ 9223372036854775807) :
    IR k e (W.alloc (.cells (nums k xs).toArray e)) base (.slice (some ⟨W.heap.size, 0, none⟩) xs.length xs.length) xs :=
  Kd.R_of_own (own_lit W base e k xs hb hm) (fun _ _ => trivial)

/-- xs[j:] -/
theorem ic_from (t e : Nat) (k : IntKind) (bytes : Nat) (hinfo : (P.info? e).map (fun i => (i.zero, i.size, i.bytes)) = some (some (.int k 0), 1, bytes)) (ht : P.underlying t = some (.slice e))
    (A : Option Addr) (c : Nat) (xs : List Int) (j : Nat) (hj : j ≤ xs.length) (hc : xs.length ≤ c) :
    ∃ A', (∀ w, (Instr.slice t (.slice A xs.length c) (some (.int .i64 (j : Int))) none none).run P w = .ok (.slice A' (xs.drop j).length (c - j)) w) ∧
      (∀ w, IC k w A xs → IC k w A' (xs.drop j)) ∧ (xs.drop j).length ≤ c - j := by
  obtain ⟨i, hi, _, hs, _⟩ := info_parts hinfo
  refine ⟨if c = j then A else A.map (·.add (j * 1)), fun w => ?_, fun w h => Kd.C_drop h hj hc, by rw [List.length_drop]; omega⟩
  have := cut_from (P := P) t e .i64 ht hi 1 hs A xs.length c (j : Int) (by omega) (by omega) w
  simpa [List.length_drop] using this
/-- xs[i:], the index and the lengths as they stand in a walk -/
theorem ic_from' (t e : Nat) (k : IntKind) (bytes : Nat) (hinfo : (P.info? e).map (fun i => (i.zero, i.size, i.bytes)) = some (some (.int k 0), 1, bytes)) (ht : P.underlying t = some (.slice e))
    (A : Option Addr) (n c : Nat) (xs : List Int) (i : Int) (j N : Nat) (hi : i = j) (hn : xs.length = n) (hN : n = j + N) (hc : n ≤ c) :
    ∃ A' c', (∀ w, (Instr.slice t (.slice A n c) (some (.int .i64 i)) none none).run P w = .ok (.slice A' N c') w) ∧
      (∀ w, IC k w A xs → IC k w A' (xs.drop j)) ∧ N ≤ c' := by
  subst hi
  subst hn
  obtain ⟨A', h1, h2, h3⟩ := ic_from (P := P) t e k bytes hinfo ht A c xs j (by omega) hc
  have e : (xs.drop j).length = N := by rw [List.length_drop]; omega
  rw [e] at h1 h3
  exact ⟨A', _, h1, h2, h3⟩

/-- a row cut from place j on, read -/
theorem ir_sub {k : IntKind} {e base n c3 j : Nat} {w : World} {A3 A : Option Addr} {xs : List Int} (h : IR k e w base (.slice A3 n c3) xs) (hj : j ≤ n)
    (hA : j < n → ∃ g, A3 = some ⟨g, 0, none⟩ ∧ A = some ⟨g, j, none⟩) : IC k w A (xs.drop j) := by
  obtain ⟨hl, hc, hC⟩ := ir_ic h
  by_cases hlt : j < n
  · obtain ⟨g, rfl, rfl⟩ := hA hlt
    have := Kd.C_drop (c := c3) (m := j) hC (by omega) (by omega)
    rw [if_neg (by omega)] at this
    simp only [Option.map_some, add_plain, show (Kd.int k).sz = 1 from rfl, Nat.mul_one] at this
    exact this
  · have : xs.drop j = [] := List.drop_eq_nil_of_le (by omega)
    rw [this]
    exact ⟨rfl, by simp, fun h => absurd h (Nat.lt_irrefl 0)⟩
/-- rest[1:], the row's start and the place kept in sight -/
theorem cut_one (t e : Nat) (k : IntKind) (bytes : Nat) (hinfo : (P.info? e).map (fun i => (i.zero, i.size, i.bytes)) = some (some (.int k 0), 1, bytes)) (ht : P.underlying t = some (.slice e))
    (g j n c : Nat) (hj : j < n) (hc : n ≤ c) :
    ∃ A', (∀ w, (Instr.slice t (.slice (some ⟨g, j, none⟩) (n - j) (c - j)) (some (.int .i64 1)) none none).run P w = .ok (.slice A' (n - (j + 1)) (c - (j + 1))) w) ∧ (j + 1 < n → A' = some ⟨g, j + 1, none⟩) := by
  obtain ⟨i, hi, _, hs, _⟩ := info_parts hinfo
  refine ⟨if c - j = 1 then some ⟨g, j, none⟩ else some ⟨g, j + 1, none⟩, fun w => ?_, fun h => if_neg (by omega)⟩
  have := cut_from (P := P) t e .i64 ht hi 1 hs (some ⟨g, j, none⟩) (n - j) (c - j) 1 (by omega) (by omega) w
  rw [this]
  simp only [Int.toNat_one, Nat.one_mul, Option.map_some, add_at]
  congr 2 <;> omega

/-- xs[:j] -/
theorem ic_to (t e : Nat) (k : IntKind) (bytes : Nat) (hinfo : (P.info? e).map (fun i => (i.zero, i.size, i.bytes)) = some (some (.int k 0), 1, bytes)) (ht : P.underlying t = some (.slice e))
    (A : Option Addr) (c : Nat) (xs : List Int) (j : Nat) (hj : j ≤ xs.length) (hc : xs.length ≤ c) :
    (∀ w, (Instr.slice t (.slice A xs.length c) none (some (.int .i64 (j : Int))) none).run P w = .ok (.slice A (xs.take j).length c) w) ∧
      (∀ w, IC k w A xs → IC k w A (xs.take j)) ∧ (xs.take j).length ≤ c := by
  obtain ⟨i, hi, _, hs, _⟩ := info_parts hinfo
  refine ⟨fun w => ?_, fun w h => Kd.C_take h hj, by rw [List.length_take]; omega⟩
  have := cut_to (P := P) t e .i64 ht hi A xs.length c (j : Int) (by omega) (by omega) hc w
  simpa [List.length_take, Nat.min_eq_left hj] using this
end
end Go.Proofs.Ytfkfdaammlffmaa
