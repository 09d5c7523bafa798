/-
  The law PipeOrder returns true also where it turns away; no condition beyond those that each theorem states.
-/
import Derived.Test.YtfndppjicneliaaOrder14
namespace Go.Proofs.Ytfndppjicneliaa
open Go.RowKit Go.Rb
attribute [local irreducible] Go.wpQuiet

set_option maxHeartbeats 2000000 in
theorem order_any (room : Int) (bs : List Bool) (A : Option Addr) (n c : Nat) (w : World) (hA : Rd w w.heap.size 1 A n (bs.map Value.bool)) (hc : n ≤ c) :
    Calls Try.prog 3 #[.int .i64 room, .slice A n c] w fun e w' => e = .returned (.bool true) ∧ Below w.heap.size w w' := by
  by_cases h1 : n ≤ 100
  · exact order_small room bs A n c w hA hc h1
  · have i1 : (100 : Int) < (n : Int) := by omega
    clear hA
    go_enter Try.func3, Try.ntmps3
    go_wp2_with fail
    refine (awake_any _).mono ?_
    rintro e1 w1 ⟨rfl, hb1⟩
    have HB1 := Lib.hid hb1
    clear hb1
    go_wp2_with fail
    refine (awake_any _).mono ?_
    rintro e3 w3 ⟨rfl, hb3⟩
    have HB3 := Lib.hid (below_trans HB1.out hb3)
    clear hb3
    go_wp2_with fail
    go_ret
    exact ⟨rfl, HB3.out⟩
end Go.Proofs.Ytfndppjicneliaa
