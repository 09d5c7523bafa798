/-
  The law's example, plain; no condition beyond those that each theorem states.
-/
import Derived.Test.YtbgmdjceecbbhaaDoorMode16
namespace Go.Proofs.YtbgmdjceecbbhaaDoor
open Go.RowKit Go.Rb

/-- The example's records and hits. -/
def awR (i : Nat) : Rc := ⟨i, 0, [UInt8.ofNat (97 + i)]⟩
def awH (i : Nat) : Bool := i == 1 || i == 4
/-- What is told behind so many, and the teller. -/
def awS : Nat → List (List UInt8) × Ts
  | 0 => ([], new_ 3 1 1)
  | i + 1 => ((awS i).1 ++ (ctx (awS i).2 (awR i) (awH i)).1, (ctx (awS i).2 (awR i) (awH i)).2)
theorem itoa_0 : Lib.itoa 0 = [48] := by simp [Lib.itoa, Lib.decDigits]
theorem itoa_small (k : Nat) (h : k < 10) : Lib.itoa (k : Int) = [UInt8.ofNat (48 + k)] := by
  unfold Lib.itoa
  rw [if_neg (by omega), Int.toNat_natCast, Lib.decDigits_one h]
theorem awS_5 : (awS 5).1 = [[48, 45, 97], [49, 58, 98], [50, 45, 99], [51, 45, 100], [52, 58, 101]] := by
  have i0 := itoa_small 0 (by decide)
  have i1 := itoa_small 1 (by decide)
  have i2 := itoa_small 2 (by decide)
  have i3 := itoa_small 3 (by decide)
  have i4 := itoa_small 4 (by decide)
  simp at i0 i1 i2 i3 i4
  simp [awS, awR, awH, new_, ctx, recAll, recL, sepOf, line, told, fresh, wrap64, i0, i1, i2, i3, i4]
theorem awS_inv (i : Nat) (h : i < 5) : (awS i).2.over = false ∧ (awS i).2.tell = 3 ∧ (∀ x ∈ (awS i).2.held, (-9223372036854775808 ≤ x.n ∧ x.n ≤ 9223372036854775807) ∧ x.t.length ≤ 60) ∧ (awS i).2.held.length ≤ 100 ∧ (awS i).2.more ≤ 1000 ∧ (awS i).1.length ≤ 100 := by
  rcases (by omega : i = 0 ∨ i = 1 ∨ i = 2 ∨ i = 3 ∨ i = 4) with rfl | rfl | rfl | rfl | rfl <;>
    simp [awS, awR, awH, new_, ctx, recAll, recL, sepOf, line, told, fresh, wrap64]
theorem awS_len (i : Nat) (h : i ≤ 5) : (awS i).1.length ≤ 100 := by
  rcases (by omega : i = 0 ∨ i = 1 ∨ i = 2 ∨ i = 3 ∨ i = 4 ∨ i = 5) with rfl | rfl | rfl | rfl | rfl | rfl
  · exact (awS_inv 0 (by omega)).2.2.2.2.2
  · exact (awS_inv 1 (by omega)).2.2.2.2.2
  · exact (awS_inv 2 (by omega)).2.2.2.2.2
  · exact (awS_inv 3 (by omega)).2.2.2.2.2
  · exact (awS_inv 4 (by omega)).2.2.2.2.2
  · rw [awS_5]; decide
theorem awH_filter (i : Nat) : decide (0 < ((if awH i then [(⟨0, 0⟩ : Ht)] else []).filter (good (awR i).t.length)).length) = awH i := by
  cases awH i <;> simp [awR, good]
end Go.Proofs.YtbgmdjceecbbhaaDoor
