/-
  The law CellOthers returns true: its walk; no condition beyond those that each theorem states.
-/
import Derived.Test.YtfadkkodamiohaaDoorErr3
namespace Go.Proofs.YtfadkkodamiohaaDoor
open Go.RowKit Go.Rb Go.Extern.Stop Go.Stop Go.Extern
attribute [local irreducible] Go.wpQuiet

set_option maxRecDepth 20000 in
set_option maxHeartbeats 1000000 in
theorem others_any (a b : Int) (note : ByteArray) (w : World) (hg : Gt w) :
    Calls Tryd.prog 3 #[.int .i64 a, .int .i64 b, .string note] w fun e w' => e = .returned (.bool true) ∧ Below w.heap.size w w' := by
  have HAW := Lib.hid (fun W => awake_any W)
  have HG := Lib.hid hg
  have HUN := Lib.hid (fun e W h => unwrap_new e W h)
  clear hg
  by_cases hlong : 200 < note.size
  · have F1 : decide (200 < (note.size : Int)) = true := decide_eq_true (by omega)
    clear hlong
    go_enter Tryd.func3, Tryd.ntmps3
    go_wp2_with fail
    refine (HAW.out w).mono ?_
    rintro e1 w1 ⟨rfl, hb1⟩
    have HB1 := Lib.hid hb1
    clear hb1
    go_wp2_with fail
    refine (HAW.out w1).mono ?_
    rintro e2 w2 ⟨rfl, hb2⟩
    have HB2 := Lib.hid hb2
    clear hb2
    go_wp2_with fail
    go_ret
    exact ⟨rfl, below_trans HB1.out HB2.out⟩
  have F1 : decide (200 < (note.size : Int)) = false := decide_eq_false (by omega)
  cases ha : (a == 0) with
  | true =>
    go_enter Tryd.func3, Tryd.ntmps3
    go_wp2_with fail
    refine (HAW.out w).mono ?_
    rintro e1 w1 ⟨rfl, hb1⟩
    have HB1 := Lib.hid hb1
    clear hb1
    go_wp2_with fail
    refine (HAW.out w1).mono ?_
    rintro e2 w2 ⟨rfl, hb2⟩
    have HB2 := Lib.hid hb2
    clear hb2
    go_wp2_with fail
    go_ret
    exact ⟨rfl, below_trans HB1.out HB2.out⟩
  | false =>
  cases hb : (b == 0) with
  | true =>
    go_enter Tryd.func3, Tryd.ntmps3
    go_wp2_with fail
    refine (HAW.out w).mono ?_
    rintro e1 w1 ⟨rfl, hb1⟩
    have HB1 := Lib.hid hb1
    clear hb1
    go_wp2_with fail
    refine (HAW.out w1).mono ?_
    rintro e2 w2 ⟨rfl, hb2⟩
    have HB2 := Lib.hid hb2
    clear hb2
    go_wp2_with fail
    go_ret
    exact ⟨rfl, below_trans HB1.out HB2.out⟩
  | false =>
    cases hemp : note.toList.isEmpty with
    | true =>
      obtain rfl : note = ⟨#[]⟩ := by
        obtain ⟨⟨l⟩⟩ := note
        rw [ByteArray.toList_mk, List.isEmpty_iff] at hemp
        rw [hemp]
      clear hlong
      go_enter Tryd.func3, Tryd.ntmps3
      go_wp2_with fail
      refine (HAW.out w).mono ?_
      rintro e1 w1 ⟨rfl, hb1⟩
      have HB1 := Lib.hid hb1
      clear hb1
      go_wp2_with fail
      refine (new_any _ w1).mono ?_
      rintro e2 w2 ⟨rfl, hb2⟩
      have HB2 := Lib.hid (below_trans HB1.out hb2)
      clear hb2
      go_wp2_with fail
      refine (HUN.out _ w2 (HG.out.below HB2.out)).mono ?_
      rintro e3 w3 ⟨rfl, hb3⟩
      have HB3 := Lib.hid (below_trans HB2.out hb3)
      clear hb3
      go_wp2_with fail
      refine (unwrap_nil w3).mono ?_
      rintro e4 w4 ⟨rfl, hb4⟩
      have HB5 := Lib.hid (below_trans HB3.out hb4)
      clear hb4
      go_wp2_with (first | (go_at_call 8; refine (wrap_none a _ ha).mono ?_; rintro e6 w6 ⟨rfl, rfl⟩) | (go_at_call 7; refine (is_eno a b _).mono ?_; rintro e7 w7 ⟨rfl, rfl⟩))
      go_ret
      exact ⟨rfl, HB5.out⟩

    | false =>
      clear hlong
      go_enter Tryd.func3, Tryd.ntmps3
      go_wp2_with fail
      refine (HAW.out w).mono ?_
      rintro e1 w1 ⟨rfl, hb1⟩
      have HB1 := Lib.hid hb1
      clear hb1
      go_wp2_with fail
      refine (new_any _ w1).mono ?_
      rintro e2 w2 ⟨rfl, hb2⟩
      have HB2 := Lib.hid (below_trans HB1.out hb2)
      clear hb2
      go_wp2_with fail
      refine (HUN.out _ w2 (HG.out.below HB2.out)).mono ?_
      rintro e3 w3 ⟨rfl, hb3⟩
      have HB3 := Lib.hid (below_trans HB2.out hb3)
      clear hb3
      go_wp2_with fail
      refine (unwrap_nil w3).mono ?_
      rintro e4 w4 ⟨rfl, hb4⟩
      have HB5 := Lib.hid (below_trans HB3.out hb4)
      clear hb4
      go_wp2_with (first | (go_at_call 8; refine (wrap_some a note _ ha hemp).mono ?_; rintro e6 w6 ⟨rfl, hblk6, hb6⟩; have HB6 := Lib.hid hb6; have HBLK6 := Lib.hid hblk6; clear hb6 hblk6) | (go_at_call 7; refine (is_wrp _ a b note _ HBLK6.out).mono ?_; rintro e7 w7 ⟨rfl, rfl⟩))
      go_ret
      exact ⟨rfl, below_trans HB5.out HB6.out⟩

end Go.Proofs.YtfadkkodamiohaaDoor
