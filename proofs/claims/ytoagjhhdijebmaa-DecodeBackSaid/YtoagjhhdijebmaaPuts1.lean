/-
  The law CodePuts of reedbedlaw01 returns true; no condition beyond those that each theorem states.
-/
import Derived.Test.YtoagjhhdijebmaaPlain2
namespace Go.Proofs.Ytoagjhhdijebmaa
open Go.RowKit Go.Rb

theorem get_put (r : Int) (rest : List UInt8) : getP (putL r ++ rest) = ((if isB r = true then r else 65533), ((putL r).length : Int)) := by
  cases hb : isB r
  · have h : putL r = putV 65533 := by unfold putL; rw [hb]; rfl
    rw [h, getP_put 65533 rest (by decide), putV_len 65533 (by decide)]
    rfl
  · rw [putL_of hb, getP_put r rest hb, putV_len r hb]
    rfl
theorem putL_bd (r : Int) : (putL r).length ≤ 4 ∧ 0 < (putL r).length := by
  have key : ∀ r, isB r = true → (putV r).length ≤ 4 ∧ 0 < (putV r).length := by
    intro r hb
    have := putV_len r hb
    rcases size_cases r with ⟨hb', hs⟩ | ⟨_, h0, h1, ⟨h2, hs⟩ | ⟨h2, h3, hs⟩ | ⟨h2, h3, hs⟩ | ⟨h2, hs⟩⟩
    · rw [hb] at hb'; cases hb'
    all_goals omega
  cases hb : isB r
  · rw [show putL r = putV 65533 by unfold putL; rw [hb]; rfl]
    exact key _ (by decide)
  · rw [putL_of hb]
    exact key _ hb

end Go.Proofs.Ytoagjhhdijebmaa
