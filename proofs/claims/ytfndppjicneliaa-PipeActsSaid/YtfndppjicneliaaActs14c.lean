/-
  The law PipeActs at every room and for all acts: it returns true; no condition beyond those that each theorem states.
-/
import Derived.Test.YtfndppjicneliaaActs14b
namespace Go.Proofs.Ytfndppjicneliaa
open Go.RowKit Go.Rb

set_option maxRecDepth 20000 in
set_option maxHeartbeats 2000000 in
theorem acts_bad (a0 : Int) (A : Option Addr) (m c : Nat) (w : World) (hm : m ≤ 40) (hb : a0 < 0 ∨ 64 < a0) :
    Calls Try.prog 6 #[.int .i64 a0, .slice A m c] w fun e w' => e = .returned (.bool true) ∧ Below w.heap.size w w' := by
  have hA : Hid (∀ w, Calls Try.prog 7 #[] w fun e w' => e = .returned (.bool true) ∧ Below w.heap.size w w') := awake_any
  have hN : Hid (∀ W, Calls Try.prog 8 #[.int .i64 a0] W fun e w' => e = .returned (.tuple #[.pointer none, .int .i64 2]) ∧ W = w') := fun W => new_bad a0 W hb
  have i1 : (m : Int) ≤ 40 := by omega
  by_cases h1 : a0 < 0
  · clear hb
    go_enter Try.func6, Try.ntmps6
    go_wp2_with (first
      | (go_at_call 8; refine (hN.out _).mono ?_; rintro e2 w2 ⟨rfl, rfl⟩)
      | (go_at_call 7; refine (hA.out _).mono ?_; rintro e1 w1 ⟨rfl, hb1⟩; have HB0 := Lib.hid hb1; clear hb1))
    go_ret
    exact ⟨rfl, HB0.out⟩
  · have h2 : 64 < a0 := by omega
    clear hb
    go_enter Try.func6, Try.ntmps6
    go_wp2_with (first
      | (go_at_call 8; refine (hN.out _).mono ?_; rintro e2 w2 ⟨rfl, rfl⟩)
      | (go_at_call 7; refine (hA.out _).mono ?_; rintro e1 w1 ⟨rfl, hb1⟩; have HB0 := Lib.hid hb1; clear hb1))
    go_ret
    exact ⟨rfl, HB0.out⟩

set_option maxRecDepth 20000 in
set_option maxHeartbeats 1000000 in
theorem actsLaw_any (a0 : Int) (acts : List ActD) (A : Option Addr) (m c : Nat) (w : World) (hr : ActsAt w w.heap.size A m acts) :
    Calls Try.prog 6 #[.int .i64 a0, .slice A m c] w fun e w' => e = .returned (.bool true) ∧ Below w.heap.size w w' := by
  by_cases h : m ≤ 40
  · by_cases hb : a0 < 0 ∨ 64 < a0
    · exact acts_bad a0 A m c w h hb
    · obtain ⟨n, rfl⟩ := Int.eq_ofNat_of_zero_le (show 0 ≤ a0 by omega)
      exact acts_good n acts A m c w hr h (by omega)
  · have hA : Hid (∀ w, Calls Try.prog 7 #[] w fun e w' => e = .returned (.bool true) ∧ Below w.heap.size w w') := awake_any
    have h1 : (40 : Int) < (m : Int) := by omega
    clear hr h
    go_enter Try.func6, Try.ntmps6
    go_wp2_with fail
    refine (hA.out _).mono ?_
    rintro e1 w1 ⟨rfl, hb1⟩
    go_wp2_with fail
    refine (hA.out _).mono ?_
    rintro e2 w2 ⟨rfl, hb2⟩
    go_wp2
    go_ret
    exact ⟨rfl, below_trans hb1 hb2⟩
end Go.Proofs.Ytfndppjicneliaa
