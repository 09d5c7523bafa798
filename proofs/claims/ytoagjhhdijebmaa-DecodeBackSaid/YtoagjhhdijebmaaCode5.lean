/-
  The law's example awake answers true; the law CodeOrder; no condition beyond those that each theorem states.
-/
import Derived.Test.YtoagjhhdijebmaaCode4
namespace Go.Proofs.Ytoagjhhdijebmaa
open Go.RowKit Go.Rb

theorem strOfNums_bytes (bs : List UInt8) : strOfNums (bs.map fun c => (c.toNat : Int)) = ⟨bs.toArray⟩ := by
  unfold strOfNums
  congr 2
  rw [List.map_map]
  conv => rhs; rw [← List.map_id bs]
  apply List.map_congr_left
  intro c _
  simp
/-- string(b) of a slice that reads as octets. -/
theorem conv_rd {W : World} {B n cap : Nat} {A : Option Addr} {bs : List UInt8} (h : Rd W B 1 A n (bs.map bV)) :
    (convert 22 9 (.slice A n cap)).run Try.prog W = .ok (.string ⟨bs.toArray⟩) W := by
  have hl : bs.length = n := by simpa using h.1
  rcases Nat.eq_zero_or_pos n with h0 | h0
  · subst h0
    obtain rfl : bs = [] := List.eq_nil_of_length_eq_zero hl
    cases A with
    | none => exact run_convert_bytes_nil W 22 5 Try.underlying22 Try.underlying5 0 cap 9 Try.underlying9
    | some a => exact run_convert_bytes_back W 22 9 5 a cap [] Try.underlying22 Try.underlying5 Try.underlying9 (fun j hj => absurd hj (by simp))
  · obtain ⟨b, off, rfl, _, hc⟩ := h.2 h0
    have := run_convert_bytes_arg (P := Try.prog) W 22 5 Try.underlying22 Try.underlying5 b off n cap (bs.map fun c => (c.toNat : Int)) (by simpa using hl)
      (fun i hi => by
        rw [hc i (by omega), List.getElem?_map, List.getElem?_eq_getElem (by omega)]
        simp [bV, List.getD, List.getElem?_map, List.getElem?_eq_getElem (show i < bs.length by omega)]) 9 Try.underlying9
    rw [strOfNums_bytes] at this
    exact this
theorem conv_own {W : World} {v : Value} {n : Nat} {bs : List UInt8} (h : Own W 5 1 v n (bs.map bV)) :
    (convert 22 9 v).run Try.prog W = .ok (.string ⟨bs.toArray⟩) W := by
  obtain ⟨A, cap, rfl, _, _⟩ := h.len_
  exact conv_rd h.rd

theorem Own.rd' {w : World} {e : TypeId} {n : Nat} {v : Value} {xs : List Value} (h : Own w e 1 v n xs) : ∃ A cap, v = .slice A n cap ∧ Rd w w.heap.size 1 A n xs ∧ n ≤ cap := by
  obtain ⟨A, cap, rfl, hc, _⟩ := h.len_
  exact ⟨A, cap, rfl, h.rd, hc⟩

theorem conv_later {W1 W2 : World} {v : Value} {n : Nat} {bs : List UInt8} (h : Own W1 5 1 v n (bs.map bV)) (hb : Below W1.heap.size W1 W2) :
    (convert 22 9 v).run Try.prog W2 = .ok (.string ⟨bs.toArray⟩) W2 := conv_own (h.below hb fun _ hk => h.lt hk)
theorem own_later {W1 W2 : World} {v : Value} {n : Nat} {bs : List UInt8} (h : Own W1 5 1 v n (bs.map bV)) (hb : Below W1.heap.size W1 W2) :
    Own W2 5 1 v n (bs.map bV) := h.below hb fun _ hk => h.lt hk
end Go.Proofs.Ytoagjhhdijebmaa
