/-
  The law ModeLines returns true: its walk; no condition beyond those that each theorem states.
-/
import Derived.Test.YtbgmdjceecbbhaaDoorLinesR
namespace Go.Proofs.YtbgmdjceecbbhaaDoor
open Go.RowKit Go.Rb
attribute [local irreducible] Go.wpQuiet

set_option maxRecDepth 20000 in
set_option maxHeartbeats 1000000 in
theorem lines_big (x y z : Int) (A : Option Addr) (n c : Nat) (w : World) (hT : Tb w) (hbig : 30 < n) :
    Calls Tryd.prog 6 #[.agg #[.int .i64 x, .int .i64 y, .int .i64 z], .slice A n c] w fun e w' => e = .returned (.bool true) ∧ Below w.heap.size w w' := by
  have HBW := Lib.hid (below_al (Below.refl _ w) (.cells #[.int .i64 x, .int .i64 y, .int .i64 z] 42))
  have HAW := Lib.hid (fun W (h : Tb W) => awake_any W h)
  have HT1 := Lib.hid (hT.alloc (.cells #[.int .i64 x, .int .i64 y, .int .i64 z] 42))
  have F1 : decide (30 < (n : Int)) = true := decide_eq_true (by omega)
  clear hT hbig
  go_enter Tryd.func6, Tryd.ntmps6
  go_wp2_with fail
  generalize w.alloc (.cells #[.int .i64 x, .int .i64 y, .int .i64 z] 42) = W1 at *
  refine (HAW.out W1 HT1.out).mono ?_
  rintro e1 w1 ⟨rfl, hb1⟩
  have HB1 := Lib.hid hb1
  clear hb1
  go_wp2_with fail
  refine (HAW.out w1 (HT1.out.below' HB1.out)).mono ?_
  rintro e2 w2 ⟨rfl, hb2⟩
  have HB2 := Lib.hid hb2
  clear hb2
  go_wp2_with fail
  go_ret
  exact ⟨rfl, below_trans HBW.out (below_trans HB1.out HB2.out)⟩
set_option maxRecDepth 20000 in
set_option maxHeartbeats 1000000 in
theorem lines_bad (x y z : Int) (A : Option Addr) (n c : Nat) (w : World) (hT : Tb w) (hn : ¬ 30 < n) (hbad : x < 0 ∨ 3 < x ∨ y < 0 ∨ 16 < y ∨ z < 0 ∨ 16 < z) :
    Calls Tryd.prog 6 #[.agg #[.int .i64 x, .int .i64 y, .int .i64 z], .slice A n c] w fun e w' => e = .returned (.bool true) ∧ Below w.heap.size w w' := by
  have HBW := Lib.hid (below_al (Below.refl _ w) (.cells #[.int .i64 x, .int .i64 y, .int .i64 z] 42))
  have HAW := Lib.hid (fun W (h : Tb W) => awake_any W h)
  have HT1 := Lib.hid (hT.alloc (.cells #[.int .i64 x, .int .i64 y, .int .i64 z] 42))
  have HX := Lib.hid (Blk.new w 42 #[.int .i64 x, .int .i64 y, .int .i64 z])
  have HNB := Lib.hid (fun W => new_bad x y z hbad W)
  have HBAD := Lib.hid hbad
  have F1 : decide (30 < (n : Int)) = false := decide_eq_false (by omega)
  clear hT hbad hn
  go_enter Tryd.func6, Tryd.ntmps6
  go_wp2_with fail
  generalize w.alloc (.cells #[.int .i64 x, .int .i64 y, .int .i64 z] 42) = W1 at *
  refine (HAW.out W1 HT1.out).mono ?_
  rintro e1 w1 ⟨rfl, hb1⟩
  have HB1 := Lib.hid hb1
  have HX1 := Lib.hid (HX.out.below hb1 HX.out.lt)
  have x0 := HX1.out.cell 0
  have x1 := HX1.out.cell 1
  have x2 := HX1.out.cell 2
  simp only [List.getElem?_toArray, List.getElem?_cons_succ, List.getElem?_cons_zero] at x0 x1 x2
  have HFIN := Lib.hid (below_trans HBW.out hb1)
  clear hb1
  by_cases a1 : x < 0
  · have G1 : decide (x < 0) = true := decide_eq_true a1
    clear a1
    go_wp2_with (go_at_call 8; go_loud (refine (HNB.out w1).mono ?_; rintro e2 w2 ⟨rfl, rfl⟩))
    go_ret
    exact ⟨rfl, HFIN.out⟩
  have G1 : decide (x < 0) = false := decide_eq_false a1
  by_cases a2 : 3 < x
  · have G2 : decide (3 < x) = true := decide_eq_true a2
    clear a1 a2
    go_wp2_with (go_at_call 8; go_loud (refine (HNB.out w1).mono ?_; rintro e2 w2 ⟨rfl, rfl⟩))
    go_ret
    exact ⟨rfl, HFIN.out⟩
  have G2 : decide (3 < x) = false := decide_eq_false a2
  by_cases a3 : y < 0
  · have G3 : decide (y < 0) = true := decide_eq_true a3
    clear a1 a2 a3
    go_wp2_with (go_at_call 8; go_loud (refine (HNB.out w1).mono ?_; rintro e2 w2 ⟨rfl, rfl⟩))
    go_ret
    exact ⟨rfl, HFIN.out⟩
  have G3 : decide (y < 0) = false := decide_eq_false a3
  by_cases a4 : 16 < y
  · have G4 : decide (16 < y) = true := decide_eq_true a4
    clear a1 a2 a3 a4
    go_wp2_with (go_at_call 8; go_loud (refine (HNB.out w1).mono ?_; rintro e2 w2 ⟨rfl, rfl⟩))
    go_ret
    exact ⟨rfl, HFIN.out⟩
  have G4 : decide (16 < y) = false := decide_eq_false a4
  by_cases a5 : z < 0
  · have G5 : decide (z < 0) = true := decide_eq_true a5
    clear a1 a2 a3 a4 a5
    go_wp2_with (go_at_call 8; go_loud (refine (HNB.out w1).mono ?_; rintro e2 w2 ⟨rfl, rfl⟩))
    go_ret
    exact ⟨rfl, HFIN.out⟩
  have G5 : decide (z < 0) = false := decide_eq_false a5
  have G6 : decide (16 < z) = true := decide_eq_true (by rcases HBAD.out with h | h | h | h | h | h; exact absurd h a1; exact absurd h a2; exact absurd h a3; exact absurd h a4; exact absurd h a5; exact h)
  clear a1 a2 a3 a4 a5
  go_wp2_with (go_at_call 8; go_loud (refine (HNB.out w1).mono ?_; rintro e2 w2 ⟨rfl, rfl⟩))
  go_ret
  exact ⟨rfl, HFIN.out⟩
end Go.Proofs.YtbgmdjceecbbhaaDoor
