/-
  The law LoomSteps returns true also where it turns away; no condition beyond those that each theorem states.
-/
import Derived.Test.YtamgngmbbbegpaaSteps1
namespace Go.Proofs.Ytamgngmbbbegpaa
open Go.RowKit Go.Rb
attribute [local irreducible] Go.wpQuiet

set_option maxHeartbeats 2000000 in
theorem steps_any (js : List Jb) (J : Option Addr) (n cj : Nat) (ps : List Int) (P : Option Addr) (np cp : Nat) (w : World) (hJ : Rd w w.heap.size 3 J n (flat3 (jrow js) n)) (hl : js.length = n) (hc : n ≤ cj)
    (hP : Rd w w.heap.size 1 P np (ps.map iV)) (hcp : np ≤ cp) :
    Calls Try.prog 5 #[.slice J n cj, .slice P np cp] w fun e w' => e = .returned (.bool true) ∧ Below w.heap.size w w' := by
  have HJ := Lib.hid hJ
  have HSM := Lib.hid (fun W B h => small_any W B J n cj js h hl hc)
  by_cases hs : smallP js
  · by_cases h1 : np ≤ 60
    · exact steps_small js J n cj ps P np cp w hJ hl hc hP hcp hs h1
    · have i1 : (60 : Int) < (np : Int) := by omega
      rw [decide_eq_true hs] at HSM
      clear hJ hP hs hl
      go_enter Try.func5, Try.ntmps5
      go_wp2_with fail
      refine (awake_any _).mono ?_
      rintro e1 w1 ⟨rfl, hb1⟩
      have HB1 := Lib.hid hb1
      clear hb1
      go_wp2_with fail
      refine (HSM.out w1 w.heap.size (HJ.out.below HB1.out)).mono ?_
      rintro e2 w2 ⟨rfl, rfl⟩
      go_wp2_with fail
      refine (awake_any _).mono ?_
      rintro e3 w3 ⟨rfl, hb3⟩
      have HB3 := Lib.hid (below_trans HB1.out hb3)
      clear hb3
      go_wp2_with fail
      go_ret
      exact ⟨rfl, HB3.out⟩
  · rw [decide_eq_false hs] at HSM
    clear hJ hP hs hl
    go_enter Try.func5, Try.ntmps5
    go_wp2_with fail
    refine (awake_any _).mono ?_
    rintro e1 w1 ⟨rfl, hb1⟩
    have HB1 := Lib.hid hb1
    clear hb1
    go_wp2_with fail
    refine (HSM.out w1 w.heap.size (HJ.out.below HB1.out)).mono ?_
    rintro e2 w2 ⟨rfl, rfl⟩
    go_wp2_with fail
    refine (awake_any _).mono ?_
    rintro e3 w3 ⟨rfl, hb3⟩
    have HB3 := Lib.hid (below_trans HB1.out hb3)
    clear hb3
    go_wp2_with fail
    go_ret
    exact ⟨rfl, HB3.out⟩
end Go.Proofs.Ytamgngmbbbegpaa
