/-
  Contracts of the functions of package code (Is, Size, length) and of reedbedref01 (Is, Size); no condition beyond those that each theorem states.
-/
import Derived.Test.YtgfienopijlnkaaBase
namespace Go.Proofs.Ytgfienopijlnkaa
open Go.RowKit Go.Rb

/-- Is a number a code point? -/
def isB (r : Int) : Bool := decide (0 ≤ r ∧ r ≤ 1114111 ∧ (r < 55296 ∨ 57344 ≤ r))
theorem isB_true {r : Int} : isB r = true ↔ (0 ≤ r ∧ r ≤ 1114111 ∧ (r < 55296 ∨ 57344 ≤ r)) := by unfold isB; exact decide_eq_true_iff
theorem isB_false {r : Int} : isB r = false ↔ ¬ (0 ≤ r ∧ r ≤ 1114111 ∧ (r < 55296 ∨ 57344 ≤ r)) := by unfold isB; exact decide_eq_false_iff_not
def sizeI (r : Int) : Int := if isB r = true then (if r < 128 then 1 else if r < 2048 then 2 else if r < 65536 then 3 else 4) else 0
theorem sizeI_wrong {r : Int} (h : isB r = false) : sizeI r = 0 := by simp [sizeI, h]
theorem sizeI_1 {r : Int} (h : isB r = true) (h1 : r < 128) : sizeI r = 1 := by simp [sizeI, h, h1]
theorem sizeI_2 {r : Int} (h : isB r = true) (h0 : ¬ r < 128) (h1 : r < 2048) : sizeI r = 2 := by simp [sizeI, h, h0, h1]
theorem sizeI_3 {r : Int} (h : isB r = true) (h0 : ¬ r < 2048) (h1 : r < 65536) : sizeI r = 3 := by
  unfold sizeI; rw [if_pos h, if_neg (by omega), if_neg h0, if_pos h1]
theorem sizeI_4 {r : Int} (h : isB r = true) (h0 : ¬ r < 65536) : sizeI r = 4 := by
  unfold sizeI; rw [if_pos h, if_neg (by omega), if_neg (by omega), if_neg h0]

set_option maxHeartbeats 400000 in
theorem refIs_any (r : Int) (w : World) : Calls Try.prog 26 #[.int .i64 r] w fun e w' => e = .returned (.bool (isB r)) ∧ w = w' := by
  have hk := isB_true (r := r)
  have hk' := isB_false (r := r)
  by_cases h0 : 0 ≤ r <;> by_cases h1 : r ≤ 1114111 <;> by_cases h2 : 55296 ≤ r <;> by_cases h3 : r ≤ 57343
  all_goals try (exfalso; omega)
  all_goals
    first | (have hb := Lib.hid (hk.2 (by omega))) | (have hb := Lib.hid (hk'.2 (by omega)))
    clear hk hk'
    go_enter Try.func26, Try.ntmps26
    go_wp2
    go_ret
    exact ⟨by rw [hb.out]; rfl, rfl⟩

/-- Which of the sizes it is. -/
theorem size_cases (r : Int) : (isB r = false ∧ sizeI r = 0) ∨ (isB r = true ∧ 0 ≤ r ∧ r ≤ 1114111 ∧ ((r < 128 ∧ sizeI r = 1) ∨ (128 ≤ r ∧ r < 2048 ∧ sizeI r = 2) ∨ (2048 ≤ r ∧ r < 65536 ∧ sizeI r = 3) ∨ (65536 ≤ r ∧ sizeI r = 4))) := by
  cases h : isB r
  · exact .inl ⟨rfl, sizeI_wrong h⟩
  · have h' := isB_true.1 h
    refine .inr ⟨rfl, h'.1, h'.2.1, ?_⟩
    by_cases h1 : r < 128
    · exact .inl ⟨h1, sizeI_1 h h1⟩
    · by_cases h2 : r < 2048
      · exact .inr (.inl ⟨by omega, h2, sizeI_2 h h1 h2⟩)
      · by_cases h3 : r < 65536
        · exact .inr (.inr (.inl ⟨by omega, h3, sizeI_3 h h2 h3⟩))
        · exact .inr (.inr (.inr ⟨by omega, sizeI_4 h h3⟩))

set_option maxHeartbeats 400000 in
theorem refSize_any (r : Int) (w : World) : Calls Try.prog 27 #[.int .i64 r] w fun e w' => e = .returned (.int .i64 (sizeI r)) ∧ w = w' := by
  have hc := refIs_any r
  rcases size_cases r with ⟨hb, hs⟩ | ⟨hb, h0, h1, ⟨h2, hs⟩ | ⟨h2, h3, hs⟩ | ⟨h2, h3, hs⟩ | ⟨h2, hs⟩⟩
  all_goals
    rw [hb] at hc
    rw [hs]
    have HC := Lib.hid hc
    clear hc hb hs
    go_enter Try.func27, Try.ntmps27
    go_wp2_with (go_at_call 26; refine (HC.out _).mono ?_; rintro e w' ⟨rfl, rfl⟩)
    go_ret
    exact ⟨rfl, rfl⟩
end Go.Proofs.Ytgfienopijlnkaa
