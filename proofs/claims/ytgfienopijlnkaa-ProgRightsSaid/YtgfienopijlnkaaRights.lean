/-
  The law ProgRights returns true, given its example; no condition beyond those that each theorem states.
-/
import Derived.Test.YtgfienopijlnkaaRight2
namespace Go.Proofs.Ytgfienopijlnkaa
open Go.RowKit Go.Rb
attribute [local irreducible] Go.wpQuiet

set_option maxHeartbeats 1000000 in
theorem rights_of (hA : ∀ W, Calls Try.prog 4 #[] W fun e w' => e = .returned (.bool true) ∧ Below W.heap.size W w') (l : List In) (A : Option Addr) (n c : Nat) (w : World) (hr : InsR w A l) (hl : l.length = n) (hc : n ≤ c) :
    Calls Try.prog 3 #[.slice A n c] w fun e w' => e = .returned (.bool true) ∧ Below w.heap.size w w' := by
  have HAW := Lib.hid hA
  clear hA
  by_cases hlong : 40 < n
  · clear hr hl hc
    go_enter Try.func3, Try.ntmps3
    go_wp2_with fail
    refine (HAW.out w).mono ?_
    rintro e1 w1 ⟨rfl, hb1⟩
    have HB1 := Lib.hid hb1
    clear hb1
    go_wp2_with fail
    refine (HAW.out w1).mono ?_
    rintro e2 w2 ⟨rfl, hb2⟩
    have HB2 := Lib.hid hb2
    clear hb2
    go_wp2_with fail
    go_ret
    exact ⟨rfl, below_trans HB1.out HB2.out⟩
  have HR := Lib.hid hr
  clear hr
  go_enter Try.func3, Try.ntmps3
  go_wp2_with fail
  refine (HAW.out w).mono ?_
  rintro e1 w1 ⟨rfl, hb1⟩
  have HB1 := Lib.hid hb1
  have HR1 := Lib.hid (HR.out.under hb1)
  clear hb1
  go_wp2_with fail
  refine (progRight_any l A n c w1 HR1.out hl (by omega) hc).mono ?_
  rintro e2 w2 ⟨rfl, hb2⟩
  have HB2 := Lib.hid (below_trans HB1.out hb2)
  have HR2 := Lib.hid (HR1.out.under hb2)
  clear hb2
  go_wp2_with fail
  refine (refRight_any l A n c w2 HR2.out hl (by omega) hc).mono ?_
  rintro e3 w3 ⟨rfl, hb3⟩
  have HB3 := Lib.hid (below_trans HB2.out hb3)
  clear hb3
  go_wp2_with fail
  go_ret
  exact ⟨by simp, HB3.out⟩
end Go.Proofs.Ytgfienopijlnkaa
