/-
  The law CodeUnits of reedbedlaw01 returns true; no condition beyond those that each theorem states.
-/
import Derived.Test.YtoagjhhdijebmaaUnits1
import Derived.Test.YtoagjhhdijebmaaOrd2
namespace Go.Proofs.Ytoagjhhdijebmaa
open Go.RowKit Go.Rb

theorem join_units (r : Int) (us : List Int) : joinP (unitsL r ++ us) = ((if isB r = true then r else 65533), ((unitsL r).length : Int)) := by
  cases hb : isB r
  · rw [unitsL_wrong hb]
    exact join_one (by omega) (by decide)
  · have h := isB_true.1 hb
    by_cases h1 : r < 65536
    · rw [unitsL_lo hb h1]
      exact join_one h1 hb
    · rw [unitsL_hi hb h1]
      show joinP (_ :: _ :: us) = _
      rw [join_two (by omega) (by omega)]
      simp
      omega
theorem units_len (r : Int) : (unitsL r).length ≤ 2 ∧ 0 < (unitsL r).length := by
  unfold unitsL unitsV
  by_cases h : (if isB r = true then r else 65533) < 65536 <;> simp [h]



end Go.Proofs.Ytoagjhhdijebmaa
