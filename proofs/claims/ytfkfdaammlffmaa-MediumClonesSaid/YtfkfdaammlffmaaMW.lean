import Derived.Test.YtfkfdaammlffmaaMV
/-! What is read of a sector: in plain words, and walked. -/
namespace Go.Proofs.Ytfkfdaammlffmaa
set_option linter.unusedVariables false
set_option linter.unusedSimpArgs false
open Go.RowKit Go.Proofs
open Go.Proofs.YtfkfdaammlffmaaW.PrintWords

def roLeft (w : World) (ch : Option Nat) (r : Nat) : Nat := match ch with | some b => w.rangeLeft b r | none => 0
theorem RO.left_eq {w : World} {ch : Option Nat} {r cnt : Nat} {l rem : PL} (h : RO w ch r l rem cnt) : roLeft w ch r = cnt := by
  cases h with
  | nil r h => rfl
  | map b r n cnt l rem h => exact h.left_eq

/-- exclusive or of bytes -/
def xb (a b : Int) : Int := Go.bits .xor .u8 a b
theorem xb_nat (a b : Nat) (ha : a < 256) (hb : b < 256) : xb (a : Int) (b : Int) = ((a ^^^ b : Nat) : Int) :=
  bits_xor_nat .u8 8 (by decide) (fun n h0 h1 => by rw [IntKind.wrap_u8]; omega) a b ha hb
theorem xb_zero (a : Int) (h0 : 0 ≤ a) (h1 : a < 256) : xb a 0 = a := by
  obtain ⟨n, rfl⟩ : ∃ n : Nat, a = n := ⟨a.toNat, by omega⟩
  have := xb_nat n 0 (by omega) (by omega)
  simpa using this
theorem xb_range (a b : Int) (ha0 : 0 ≤ a) (ha1 : a < 256) (hb0 : 0 ≤ b) (hb1 : b < 256) : 0 ≤ xb a b ∧ xb a b < 256 := by
  obtain ⟨n, rfl⟩ : ∃ n : Nat, a = n := ⟨a.toNat, by omega⟩
  obtain ⟨m, rfl⟩ : ∃ m : Nat, b = m := ⟨b.toNat, by omega⟩
  rw [xb_nat n m (by omega) (by omega)]
  have := Nat.xor_lt_two_pow (n := 8) (x := n) (y := m) (by omega) (by omega)
  omega
/-- a list by its elements -/
def mkL (n : Nat) (f : Nat → Int) : List Int := (List.range n).map f
theorem mkL_length (n : Nat) (f : Nat → Int) : (mkL n f).length = n := by simp [mkL]
theorem mkL_get (n : Nat) (f : Nat → Int) (j : Nat) (h : j < (mkL n f).length) : (mkL n f)[j] = f j := by simp [mkL]
theorem mkL_rd (n : Nat) (f : Nat → Int) (j : Nat) (h : j < n) : rd (mkL n f) j = f j := by
  simp [rd, mkL, List.getD_eq_getElem?_getD, h]
theorem mkL_congr (n : Nat) (f g : Nat → Int) (h : ∀ j, j < n → f j = g j) : mkL n f = mkL n g := List.map_congr_left (fun j hj => h j (List.mem_range.1 hj))
theorem mkL_set (n : Nat) (f : Nat → Int) (k : Nat) (x : Int) : (mkL n f).set k x = mkL n (fun j => if j = k then x else f j) := by
  apply List.ext_getElem
  · simp [mkL]
  · intro j h1 h2
    rw [List.getElem_set, mkL_get, mkL_get]
    by_cases e : k = j
    · subst e; simp
    · rw [if_neg e, if_neg (Ne.symm e)]
theorem mkL_self (L : List Int) : mkL L.length (fun j => rd L j) = L := by
  apply List.ext_getElem
  · simp [mkL]
  · intro j h1 h2
    rw [mkL_get]
    simp [rd, List.getD_eq_getElem?_getD, h2]
def IsByte (x : Int) : Prop := 0 ≤ x ∧ x < 256
/-- the bytes of raw, changed by what is no longer to come (rem) -/
def xorL (raw : List Int) (lc rem : PL) : List Int := mkL raw.length (fun j => if look rem j = none then xb (rd raw j) ((look lc j).getD 0) else rd raw j)
theorem rd_byte {raw : List Int} (h : ∀ x ∈ raw, IsByte x) (j : Nat) : IsByte (rd raw j) := by
  unfold rd
  rw [List.getD_eq_getElem?_getD]
  cases hj : raw[(j : Int).toNat]? with
  | none => exact ⟨by simp, by simp⟩
  | some x => exact h x (List.mem_of_getElem? hj)
theorem xorL_start {raw : List Int} (h : ∀ x ∈ raw, IsByte x) (lc : PL) : xorL raw lc lc = raw := by
  unfold xorL
  rw [mkL_congr _ _ (fun j => rd raw j) (fun j hj => ?_), mkL_self]
  by_cases e : look lc j = none
  · rw [if_pos e, e]
    have := rd_byte h j
    exact xb_zero _ this.1 this.2
  · rw [if_neg e]
theorem xorL_step {raw : List Int} {lc rem : PL} {x c : Int} (hs : Srt lc) (hsub : ∀ y ∈ rem, y ∈ lc) (hm : (x, c) ∈ rem) (h0 : 0 ≤ x) (h1 : x < raw.length) :
    (xorL raw lc rem).set x.toNat (xb (rd (xorL raw lc rem) x.toNat) c) = xorL raw lc (strL x rem) := by
  obtain ⟨k, rfl⟩ : ∃ k : Nat, x = k := ⟨x.toNat, by omega⟩
  rw [Int.toNat_natCast]
  have hk : k < raw.length := by omega
  have hl : look lc k = some c := mem_look hs (hsub _ hm)
  have hr : look rem k ≠ none := fun e => look_none e c hm
  unfold xorL
  rw [mkL_rd _ _ _ hk, mkL_set, if_neg hr]
  refine mkL_congr _ _ _ (fun j hj => ?_)
  rw [look_strL]
  by_cases e : j = k
  · subst e
    rw [if_pos rfl, if_pos rfl, if_pos rfl, hl]
    rfl
  · have e2 : (j : Int) ≠ (k : Int) := by omega
    rw [if_neg e, if_neg e2]
/-- the erased ones of the first m are 0 -/
def zeroL (L : List Int) (gn : List Int) (m : Nat) : List Int := mkL L.length (fun j => if (gn.take m).contains (j : Int) then 0 else rd L j)
theorem zeroL_start (L gn : List Int) : zeroL L gn 0 = L := by
  unfold zeroL
  rw [mkL_congr _ _ (fun j => rd L j) (fun j hj => by simp), mkL_self]
theorem zeroL_step {L gn : List Int} {m : Nat} {x : Int} (hx : gn[m]? = some x) (h0 : 0 ≤ x) : (zeroL L gn m).set x.toNat 0 = zeroL L gn (m + 1) := by
  obtain ⟨k, rfl⟩ : ∃ k : Nat, x = k := ⟨x.toNat, by omega⟩
  rw [Int.toNat_natCast]
  unfold zeroL
  rw [mkL_set]
  refine mkL_congr _ _ _ (fun j hj => ?_)
  rw [List.take_add_one, hx, Option.toList_some]
  by_cases e : j = k
  · subst e; simp
  · have e2 : (j : Int) ≠ (k : Int) := by omega
    rw [if_neg e]
    simp [e2]
theorem zeroL_length (L gn : List Int) (m : Nat) : (zeroL L gn m).length = L.length := mkL_length _ _
theorem xorL_length (raw : List Int) (lc rem : PL) : (xorL raw lc rem).length = raw.length := mkL_length _ _
/-- what is read of a recorded sector -/
def readL (raw : List Int) (lc : PL) (gn : List Int) : List Int := mkL raw.length (fun j => if gn.contains (j : Int) then 0 else xb (rd raw j) ((look lc j).getD 0))
theorem readL_of (raw : List Int) (lc : PL) (gn : List Int) : zeroL (xorL raw lc []) gn gn.length = readL raw lc gn := by
  unfold zeroL readL
  rw [xorL_length, List.take_length]
  refine mkL_congr _ _ _ (fun j hj => ?_)
  unfold xorL
  rw [mkL_rd _ _ _ hj, look_nil, if_pos rfl]
/-- content, offsets, error -/
def readT (st : Int) (raw : ByteArray) (lc : PL) (gn : List Int) : ByteArray × List Int × Int :=
  if st = 0 then (ByteArray.empty, [], 8) else if st = 1 then (strOfNums (readL (bytesOf raw) lc gn), gn, 0) else (ByteArray.empty, [], 9)

/-- the bytes L lie at the head of block B, and may be written -/
def By (w : World) (B : Nat) (L : List Int) : Prop := B < w.heap.size ∧ ∀ j, j < L.length → w.cell? ⟨B, j, none⟩ = some (.int .u8 (rd L j)) ∧ w.frozen? ⟨B, j, none⟩ = false
theorem by_new (w : World) (e : TypeId) (s : ByteArray) : By (Lib.bytesWorld w e s) w.heap.size (bytesOf s) := by
  refine ⟨by rw [Lib.bytesWorld_size]; omega, fun j hj => ?_⟩
  rw [bytesOf_length] at hj
  refine ⟨?_, ?_⟩
  · rw [Lib.bytesWorld_cell w e s j hj]
    have h' : j < s.data.toList.length := by rw [data_length]; exact hj
    simp [rd, bytesOf, List.getD_eq_getElem?_getD, List.getElem?_eq_getElem h']
  · have hz : j < (Lib.bytesCells w e s).size := by
      have : (s.data.map fun b => Value.int .u8 (b.toNat : Int)).size = s.size := by rw [Array.size_map]; rfl
      unfold Lib.bytesCells
      rw [Array.size_append, this]
      omega
    simp [World.frozen?, Lib.bytesWorld_at_new]
    omega
theorem By.of_block {w w' : World} {B : Nat} {L : List Int} (h : By w B L) (hb : w'.heap[B]? = w.heap[B]?) : By w' B L := by
  refine ⟨?_, fun j hj => ?_⟩
  · have h1 := (Array.getElem?_eq_some_iff.1 (Array.getElem?_eq_getElem h.1)).1
    rw [Array.getElem?_eq_getElem h.1] at hb
    exact (Array.getElem?_eq_some_iff.1 hb).1
  · obtain ⟨h1, h2⟩ := h.2 j hj
    exact ⟨(World.cell?_of_block (a := ⟨B, j, none⟩) hb).trans h1, (World.frozen?_of_block (a := ⟨B, j, none⟩) hb).trans h2⟩
theorem By.put {w : World} {B : Nat} {L : List Int} (h : By w B L) (k : Nat) (x : Int) (hk : k < L.length) : By (w.setCell ⟨B, k, none⟩ (.int .u8 x)) B (L.set k x) := by
  refine ⟨by simpa [World.setCell] using h.1, fun j hj => ?_⟩
  rw [List.length_set] at hj
  refine ⟨?_, by rw [World.frozen?_setCell]; exact (h.2 j hj).2⟩
  by_cases e : k = j
  · subst e
    rw [World.cell?_setCell_same _ _ _ (h.2 k hk).1]
    simp [rd, List.getD_eq_getElem?_getD, hk]
  · rw [World.cell?_setCell_other _ _ _ _ (by intro h; injection h with _ h; exact e h), (h.2 j hj).1]
    simp [rd, List.getD_eq_getElem?_getD, List.getElem?_set, e]
theorem By.ic {w : World} {B : Nat} {L : List Int} (h : By w B L) (hl : L.length ≤ 9223372036854775807) : IC .u8 w (some ⟨B, 0, none⟩) L := by
  have := ic_of_cells .u8 w ⟨B, 0, none⟩ L.length L.length L (Nat.le_refl _) hl rfl (fun i hi => by
    rw [add_at, Nat.zero_add, (h.2 i hi).1]
    simp [rd])
  rwa [List.take_length] at this
end Go.Proofs.Ytfkfdaammlffmaa
