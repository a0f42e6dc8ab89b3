import Derived.Test.YtfkfdaammlffmaaMF
/-! The surface of a disc in memory: its sectors, and what reads them. -/
namespace Go.Proofs.Ytfkfdaammlffmaa
set_option linter.unusedVariables false
set_option linter.unusedSimpArgs false
open Go.RowKit Go.Proofs
open Go.Proofs.YtfkfdaammlffmaaW.PrintWords

/-- a sector: state, count, content, the block of the erased offsets, the block of the changed bytes -/
structure Sf where
  st : Int
  ct : Int
  raw : ByteArray
  er : Option Nat
  ch : Option Nat
abbrev Tup := Int × Int × ByteArray × Option Nat × Option Nat
def Sf.tup (s : Sf) : Tup := (s.st, s.ct, s.raw, s.er, s.ch)
abbrev KdM : Kd (Option Nat) := Kd.scalar Value.map (fun _ => rfl)
abbrev KdT : Kd Tup := Kd.pair (Kd.int .i64) (Kd.pair (Kd.int .i64) (Kd.pair Kd.string (Kd.pair KdM KdM)))
def sf0 : Sf := ⟨0, 0, ByteArray.empty, none, none⟩
abbrev SfR (w : World) (base : Nat) (v : Value) (S : List Sf) : Prop := KdT.R 101 w base Any v (S.map Sf.tup)
theorem info_surface : (Try.prog.info? 101).map (fun i => (i.zero, i.size, i.bytes)) = some (some (.agg #[.int .i64 0, .int .i64 0, .string ByteArray.empty, .map none, .map none]), 5, 48) := by kernel_rfl
theorem sf_cells {w : World} {base g n cap : Nat} {S : List Sf} (h : SfR w base (.slice (some ⟨g, 0, none⟩) n cap) S) (i : Nat) (hi : i < n) :
    ∃ s, S[i]? = some s ∧ w.cell? ⟨g, i * 5, none⟩ = some (.int .i64 s.st) ∧ w.cell? ⟨g, i * 5 + 1, none⟩ = some (.int .i64 s.ct) ∧ w.cell? ⟨g, i * 5 + 2, none⟩ = some (.string s.raw) ∧ w.cell? ⟨g, i * 5 + 3, none⟩ = some (.map s.er) ∧ w.cell? ⟨g, i * 5 + 4, none⟩ = some (.map s.ch) ∧ ∀ j, w.frozen? ⟨g, i * 5 + j, none⟩ = false := by
  obtain ⟨hn, -, -⟩ := Kd.R_reads' h
  rw [List.length_map] at hn
  obtain ⟨c, hcl, hM, hc, hf⟩ := Kd.R_elem h sf0.tup (i : Int) (by omega) (by omega)
  rw [Int.toNat_natCast] at hM hc hf
  have hs : S[i]? = some (S[i]'(by omega)) := List.getElem?_eq_getElem (by omega)
  refine ⟨S[i]'(by omega), hs, ?_⟩
  have hg : (S.map Sf.tup).getD i sf0.tup = (S[i]'(by omega)).tup := by simp [List.getD_eq_getElem?_getD, hs]
  rw [hg] at hM
  obtain ⟨a0, r0, rfl, h0, a1, r1, rfl, h1, a2, r2, rfl, h2, a3, a4, rfl, h3, h4⟩ := hM
  have k0 : a0 = [.int .i64 (S[i]'(by omega)).st] := h0
  have k1 : a1 = [.int .i64 (S[i]'(by omega)).ct] := h1
  have k2 : a2 = [.string (S[i]'(by omega)).raw] := h2
  have k3 : a3 = [.map (S[i]'(by omega)).er] := h3
  have k4 : a4 = [.map (S[i]'(by omega)).ch] := h4
  rw [k0, k1, k2, k3, k4] at hc
  exact ⟨hc 0 _ rfl, hc 1 _ rfl, hc 2 _ rfl, hc 3 _ rfl, hc 4 _ rfl, hf⟩
/-- a cell of a sector is written -/
theorem sf_put {w : World} {base g n cap : Nat} {S : List Sf} (h : SfR w base (.slice (some ⟨g, 0, none⟩) n cap) S) (i : Nat) (hi : i < n) (s s' : Sf) (hs : S[i]? = some s) (j : Nat) (v : Value)
    (hv : [.int .i64 s'.st, .int .i64 s'.ct, .string s'.raw, .map s'.er, .map s'.ch] = ([.int .i64 s.st, .int .i64 s.ct, .string s.raw, .map s.er, .map s.ch] : List Value).set j v) (hj : j < 5) (h1 : v.oneCell' = true) :
    SfR (w.setCell ⟨g, i * 5 + j, none⟩ v) base (.slice (some ⟨g, 0, none⟩) n cap) (S.set i s') := by
  obtain ⟨s2, hs2, c0, c1, c2, c3, c4, hf⟩ := sf_cells h i hi
  rw [hs] at hs2
  injection hs2 with hs2
  subst hs2
  have hcc : ∀ q u, ([.int .i64 s.st, .int .i64 s.ct, .string s.raw, .map s.er, .map s.ch] : List Value)[q]? = some u → w.cell? ⟨g, (i : Int).toNat * KdT.sz + q, none⟩ = some u := by
    intro q u hq
    rw [Int.toNat_natCast]
    match q, hq with
    | 0, hq => injection hq with hq; subst hq; exact c0
    | 1, hq => injection hq with hq; subst hq; exact c1
    | 2, hq => injection hq with hq; subst hq; exact c2
    | 3, hq => injection hq with hq; subst hq; exact c3
    | 4, hq => injection hq with hq; subst hq; exact c4
  have hset : ∀ (l : List Value) (j : Nat) (v : Value), j < l.length → l.take j ++ [v] ++ l.drop (j + 1) = l.set j v := fun l j v hj => by
    rw [List.set_eq_take_append_cons_drop, if_pos hj]; simp
  have := Kd.R_seg (seg := [v]) (j := j) (x' := s'.tup) (okp := fun _ => False) h (i : Int) (by omega) (by omega) rfl hcc (show j + 1 ≤ 5 from hj) (by
    rw [List.length_singleton, hset _ _ _ hj, ← hv]
    exact ⟨[_], [_, _, _, _], rfl, rfl, [_], [_, _, _], rfl, rfl, [_], [_, _], rfl, rfl, [_], [_], rfl, rfl, rfl⟩) (fun _ h => h.elim)
  rw [Int.toNat_natCast] at this
  have h3 := this.1
  show KdT.R _ _ _ _ _ ((S.set i s').map Sf.tup)
  have e : (S.set i s').map Sf.tup = (S.map Sf.tup).set i s'.tup := List.map_set
  rw [e]
  exact h3
end Go.Proofs.Ytfkfdaammlffmaa
