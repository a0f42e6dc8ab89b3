import Derived.Test.YtfkfdaammlffmaaNA
import Derived.Test.YtfkfdaammlffmaaML
import Derived.Test.YtfkfdaammlffmaaMK
/-! Small facts for the laws of media: bytes of a string, what is read unhurt, what keeps a medium. -/
namespace Go.Proofs.Ytfkfdaammlffmaa
set_option linter.unusedVariables false
set_option linter.unusedSimpArgs false
open Go.RowKit Go.Proofs
open Go.Proofs.YtfkfdaammlffmaaW.PrintWords

theorem byte_wf {a : Int} (h : (Lit.int .u8 a).wf = true) : 0 ≤ a ∧ a ≤ 255 := by
  simpa [Lit.wf, IntKind.min, IntKind.max, IntKind.signed, IntKind.bits] using h
theorem goneL_none (i : Int) : goneL [] [] i = [] := by
  refine ext_srt (eraL_srt _) (by simp) (fun x => ?_)
  unfold goneL
  rw [mem_eraL, look_nil, show lostAt [] i = [] from rfl]
  simp
theorem str_bytesOf (s : ByteArray) : strOfNums (bytesOf s) = s := by
  apply ByteArray.ext
  apply Array.ext'
  rw [strOfNums_data]
  unfold bytesOf
  rw [List.map_map]
  conv => rhs; rw [← List.map_id s.data.toList]
  refine List.map_congr_left (fun b _ => ?_)
  simp
theorem bytesOf_byte (s : ByteArray) : ∀ x ∈ bytesOf s, IsByte x := fun x hx => by
  obtain ⟨u, -, rfl⟩ := List.mem_map.1 hx
  have := u.toNat_lt
  exact ⟨by omega, by omega⟩
theorem readL_none (s : ByteArray) : strOfNums (readL (bytesOf s) [] []) = s := by
  have : readL (bytesOf s) [] [] = bytesOf s := by
    unfold readL
    rw [mkL_congr _ _ (fun j => rd (bytesOf s) j) (fun j hj => ?_), mkL_self]
    rw [look_nil]
    have := rd_byte (bytesOf_byte s) j
    simp [xb_zero _ this.1 this.2]
  rw [this, str_bytesOf]
theorem readT_none (s : ByteArray) (i : Int) : readT 1 s [] (goneL [] [] i) = (s, [], 0) := by
  unfold readT
  rw [if_neg (by decide), if_pos rfl, goneL_none, readL_none]

theorem rawS_size (b : Int) : (strOfNums (rawL b 2352)).size = 2352 := by rw [strOfNums_size, rawL_length]
theorem MB.keep {w w' : World} {base t g cap : Nat} {kd en : Int} {S : List Sf} {sv lv : Value} (h : MB w base t g cap kd en S sv lv) (ht : w'.heap[t]? = w.heap[t]?) (hg : w'.heap[g]? = w.heap[g]?) : MB w' base t g cap kd en S sv lv :=
  ⟨ht.trans h.blk, sf_of_block h.row (fun k e => by simp [Value.ownBlock] at e; subst e; exact hg), h.ne, h.bt⟩
theorem MB.glt {w : World} {base t g cap : Nat} {kd en : Int} {S : List Sf} {sv lv : Value} (h : MB w base t g cap kd en S sv lv) : g < w.heap.size := Kd.R_lt h.row g rfl
/-- a medium is kept by what turns another medium's head alone -/
theorem MB.but {w w' : World} {base t g cap x : Nat} {kd en : Int} {S : List Sf} {sv lv : Value} (h : MB w base t g cap kd en S sv lv) (hb : But x x w w') (h1 : t ≠ x) (h2 : g ≠ x) : MB w' base t g cap kd en S sv lv :=
  h.keep (hb.block t h.lt h1 h1) (hb.block g h.glt h2 h2)
theorem LM.but {w w' : World} {base x : Nat} {lv : Value} {offs : List Int} (h : LM w base lv offs) (hb : But x x w w') {cur : Array Value} {T : Nat} (hx : w.heap[x]? = some (.cells cur T (0, 0))) (hT : T ≠ 3) : LM w' base lv offs :=
  h.keep (fun b es cl hh _ => hb.block b (Array.getElem?_eq_some_iff.1 hh).1 (fun e => by subst e; rw [hx] at hh; cases hh) (fun e => by subst e; rw [hx] at hh; cases hh))
    (fun g c hh => hb.block g (Array.getElem?_eq_some_iff.1 hh).1 (fun e => by subst e; rw [hx] at hh; injection hh with hh; injection hh with _ hh; exact hT hh) (fun e => by subst e; rw [hx] at hh; injection hh with hh; injection hh with _ hh; exact hT hh)) hb.size
theorem PV.but {w w' : World} {base x : Nat} {sv : Value} {l : PL} (h : PV w base sv l) (hb : But x x w w') {cur : Array Value} {T : Nat} (hx : w.heap[x]? = some (.cells cur T (0, 0))) (hT : T ≠ 36) : PV w' base sv l :=
  h.of_block (fun k e => by
    obtain ⟨-, hk2, cur', hk3⟩ := h.lt k e
    have : k ≠ x := fun e2 => by subst e2; rw [hx] at hk3; injection hk3 with hk3; injection hk3 with _ hk3; exact hT hk3
    exact hb.block k hk2 this this)

end Go.Proofs.Ytfkfdaammlffmaa
