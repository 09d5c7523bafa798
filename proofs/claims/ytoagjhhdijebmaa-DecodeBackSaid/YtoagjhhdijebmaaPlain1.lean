/-
  Plain facts: octets are in the order of their code points; no condition beyond those that each theorem states.
-/
import Derived.Test.YtoagjhhdijebmaaCode5
namespace Go.Proofs.Ytoagjhhdijebmaa
open Go.RowKit Go.Rb

theorem by_toNat (n : Int) (h0 : 0 ≤ n) (h1 : n < 256) : ((by_ n).toNat : Int) = n := by
  unfold by_
  simp only [UInt8.toNat_ofNat']
  omega
theorem by_inj (m n : Int) (h0 : 0 ≤ m) (h1 : m < 256) (h2 : 0 ≤ n) (h3 : n < 256) : by_ m = by_ n ↔ m = n := by
  constructor
  · intro h
    have a := by_toNat m h0 h1
    have b := by_toNat n h2 h3
    rw [h] at a
    omega
  · rintro rfl; rfl
theorem less_by (m n : Int) (x y : List UInt8) (h0 : 0 ≤ m) (h1 : m < 256) (h2 : 0 ≤ n) (h3 : n < 256) :
    Op.bytesLess (by_ m :: x) (by_ n :: y) = (decide (m < n) || (decide (m = n) && Op.bytesLess x y)) := by
  have a := by_toNat m h0 h1
  have b := by_toNat n h2 h3
  have e1 : decide (by_ m < by_ n) = decide (m < n) := by
    rw [decide_eq_decide, UInt8.lt_iff_toNat_lt]; omega
  have e2 : (by_ m == by_ n) = decide (m = n) := by
    rw [Bool.eq_iff_iff, beq_iff_eq, decide_eq_true_iff]; exact by_inj m n h0 h1 h2 h3
  show (decide (by_ m < by_ n) || (by_ m == by_ n && Op.bytesLess x y)) = _
  rw [e1, e2]
theorem less_nil : Op.bytesLess [] [] = false := rfl

theorem order_less (a b : Int) (ha : isB a = true) (hb : isB b = true) : Op.bytesLess (putV a) (putV b) = decide (a < b) := by
  have ha' := isB_true.1 ha
  have hb' := isB_true.1 hb
  have key : ∀ r : Int, 0 ≤ r → r ≤ 1114111 → (r < 128 ∧ putV r = [by_ r]) ∨ (128 ≤ r ∧ r < 2048 ∧ putV r = put2 r) ∨ (2048 ≤ r ∧ r < 65536 ∧ putV r = put3 r) ∨ (65536 ≤ r ∧ putV r = put4 r) := by
    intro r _ _
    unfold putV
    by_cases h1 : r < 128
    · left; exact ⟨h1, by rw [if_pos h1]⟩
    · by_cases h2 : r < 2048
      · right; left; exact ⟨by omega, h2, by rw [if_neg h1, if_pos h2]⟩
      · by_cases h3 : r < 65536
        · right; right; left; exact ⟨by omega, h3, by rw [if_neg h1, if_neg h2, if_pos h3]⟩
        · right; right; right; exact ⟨by omega, by rw [if_neg h1, if_neg h2, if_neg h3]⟩
  rcases key a (by omega) (by omega) with ⟨a1, e⟩ | ⟨a1, a2, e⟩ | ⟨a1, a2, e⟩ | ⟨a1, e⟩ <;>
    rcases key b (by omega) (by omega) with ⟨b1, f⟩ | ⟨b1, b2, f⟩ | ⟨b1, b2, f⟩ | ⟨b1, f⟩
  all_goals rw [e, f]
  all_goals try simp only [put2, put3, put4]
  all_goals rw [less_by _ _ _ _ (by omega) (by omega) (by omega) (by omega)]
  all_goals try rw [less_by _ _ _ _ (by omega) (by omega) (by omega) (by omega)]
  all_goals try rw [less_by _ _ _ _ (by omega) (by omega) (by omega) (by omega)]
  all_goals try rw [less_by _ _ _ _ (by omega) (by omega) (by omega) (by omega)]
  all_goals try rw [less_nil]
  all_goals
    rw [Bool.eq_iff_iff]
    simp only [Bool.or_eq_true, Bool.and_eq_true, decide_eq_true_iff, Bool.false_eq_true, and_false, or_false]
  all_goals first
    | omega
    | (constructor <;> intro h <;> first | omega | (left; omega))

theorem less_irrefl (x : List UInt8) : Op.bytesLess x x = false := by
  induction x with
  | nil => rfl
  | cons c x ih => simp [Op.bytesLess, ih]

theorem order_same (a b : Int) (ha : isB a = true) (hb : isB b = true) : (putV a == putV b) = (a == b) := by
  rw [Bool.eq_iff_iff, beq_iff_eq, beq_iff_eq]
  constructor
  · intro h
    have h1 := order_less a b ha hb
    have h2 := order_less b a hb ha
    rw [h, less_irrefl] at h1
    rw [h, less_irrefl] at h2
    have h1 := of_decide_eq_false h1.symm
    have h2 := of_decide_eq_false h2.symm
    omega
  · rintro rfl; rfl
end Go.Proofs.Ytoagjhhdijebmaa
