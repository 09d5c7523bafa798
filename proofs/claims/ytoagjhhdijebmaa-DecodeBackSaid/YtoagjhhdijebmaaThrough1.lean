/-
  The law CodeThrough of reedbedlaw01 returns true; no condition beyond those that each theorem states.
-/
import Derived.Test.YtoagjhhdijebmaaPuts1
namespace Go.Proofs.Ytoagjhhdijebmaa
open Go.RowKit Go.Rb

/-- Get gives a code point, and at least one octet, of those that are there. -/
theorem getP_fits (l : List UInt8) (h : l ≠ []) : isB (getP l).1 = true ∧ 1 ≤ (getP l).2 ∧ (getP l).2 ≤ l.length := by
  by_cases hb : getP l = badG
  · rw [hb]
    refine ⟨by decide, by decide, ?_⟩
    have : 0 < l.length := List.length_pos_iff.2 h
    show (1 : Int) ≤ _
    omega
  · obtain ⟨k, h1, h4, hk, ho⟩ := ok_of_getP l h hb
    rw [getP_of_ok l k hk ho]
    unfold okN at ho
    rw [Bool.and_eq_true] at ho
    exact ⟨ho.1, by show (1 : Int) ≤ (k : Int); omega, by show (k : Int) ≤ _; omega⟩

def allPut (rs : List Int) : List UInt8 := rs.flatMap putL
theorem allPut_snoc (rs : List Int) (r : Int) : allPut (rs ++ [r]) = allPut rs ++ putL r := by simp [allPut]
theorem allPut_len (rs : List Int) : (allPut rs).length ≤ 4 * rs.length := by
  induction rs with
  | nil => simp [allPut]
  | cons r rs ih =>
    have := putL_bd r
    simp only [allPut, List.flatMap_cons, List.length_append, List.length_cons] at ih ⊢
    omega
theorem Rd.drop_ {w : World} {B n k b off : Nat} {xs : List Value} (h : Rd w B 1 (some ⟨b, off, none⟩) n xs) (hk : k < n) : Rd w B 1 (some ⟨b, off + k, none⟩) (n - k) (xs.drop k) := by
  refine ⟨by rw [List.length_drop, h.1]; omega, fun _ => ?_⟩
  obtain ⟨b', off', hA, hlt, hc⟩ := h.2 (by omega)
  simp only [Option.some.injEq, Addr.mk.injEq, and_true] at hA
  obtain ⟨rfl, rfl⟩ := hA
  refine ⟨b, off + k, rfl, hlt, fun j hj => ?_⟩
  rw [Nat.add_assoc, hc (k + j) (by omega), List.getElem?_drop]

theorem extract_drop (s : ByteArray) (k : Nat) : (s.extract k s.size).data.toList = s.data.toList.drop k := by
  rw [ByteArray.data_extract, Array.toList_extract]
  unfold List.extract
  exact List.take_of_length_le (by rw [List.length_drop]; simp)
theorem rd_conv (W : World) (s : ByteArray) (cap : Nat) (t : TypeId) (fr : Nat × Nat) : Rd ((W.alloc (.cells (bytesRow s cap) t fr)).drew) (W.heap.size + 1) 1 (some ⟨W.heap.size, 0, none⟩) s.size (s.data.toList.map bV) := by
  refine ⟨by simp, fun _ => ⟨W.heap.size, 0, rfl, by omega, fun j hj => ?_⟩⟩
  have hj' : j < s.size := by omega
  show (W.alloc (.cells (bytesRow s cap) t fr)).cell? ⟨W.heap.size, 0 + j, none⟩ = _
  rw [Nat.zero_add, World.cell?_alloc_mark]
  unfold bytesRow
  rw [Array.getElem?_append_left (by simpa using hj')]
  simp [bV]
  rfl

end Go.Proofs.Ytoagjhhdijebmaa
