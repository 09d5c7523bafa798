/-
  The law LoomFree returns true also where it turns away; no condition beyond those that each theorem states.
-/
import Derived.Test.YtamgngmbbbegpaaFree1
namespace Go.Proofs.Ytamgngmbbbegpaa
open Go.RowKit Go.Rb
attribute [local irreducible] Go.wpQuiet

set_option maxHeartbeats 2000000 in
theorem free_any (bs : List UInt8) (A : Option Addr) (n c : Nat) (ps : List Int) (P : Option Addr) (np cp : Nat) (w : World) (hA : Rd w w.heap.size 1 A n (bs.map bV)) (hc : n ≤ c)
    (hP : Rd w w.heap.size 1 P np (ps.map iV)) (hcp : np ≤ cp) :
    Calls Try.prog 6 #[.slice A n c, .slice P np cp] w fun e w' => e = .returned (.bool true) ∧ Below w.heap.size w w' := by
  by_cases h1 : n ≤ 10
  · by_cases h2 : np ≤ 60
    · exact free_small bs A n c ps P np cp w hA hc hP hcp h1 h2
    · have i1 : (60 : Int) < (np : Int) := by omega
      have i2 : ¬ (10 : Int) < (n : Int) := by omega
      clear hA hP
      go_enter Try.func6, Try.ntmps6
      go_wp2_with fail
      refine (awake_any _).mono ?_
      rintro e1 w1 ⟨rfl, hb1⟩
      have HB1 := Lib.hid hb1
      clear hb1
      go_wp2_with fail
      refine (awake_any _).mono ?_
      rintro e3 w3 ⟨rfl, hb3⟩
      have HB3 := Lib.hid (below_trans HB1.out hb3)
      clear hb3
      go_wp2_with fail
      go_ret
      exact ⟨rfl, HB3.out⟩
  · have i1 : (10 : Int) < (n : Int) := by omega
    clear hA hP
    go_enter Try.func6, Try.ntmps6
    go_wp2_with fail
    refine (awake_any _).mono ?_
    rintro e1 w1 ⟨rfl, hb1⟩
    have HB1 := Lib.hid hb1
    clear hb1
    go_wp2_with fail
    refine (awake_any _).mono ?_
    rintro e3 w3 ⟨rfl, hb3⟩
    have HB3 := Lib.hid (below_trans HB1.out hb3)
    clear hb3
    go_wp2_with fail
    go_ret
    exact ⟨rfl, HB3.out⟩
end Go.Proofs.Ytamgngmbbbegpaa
