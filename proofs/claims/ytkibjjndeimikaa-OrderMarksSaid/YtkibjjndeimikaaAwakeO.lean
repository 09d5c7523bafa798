/-
  The document's examples: awake returns true; no condition beyond those that each theorem states.
-/
import Derived.Test.YtkibjjndeimikaaMark1
namespace Go.Proofs.Ytkibjjndeimikaa
open Go.RowKit Go.Rb
attribute [local irreducible] Go.wpQuiet

set_option maxHeartbeats 1000000 in
theorem awake_any (w : World) : Calls Try.prog 7 #[] w fun e w' => e = .returned (.bool true) ∧ Below w.heap.size w w' := by
  have hr1 := (Own.lit w 5 1 4 #[.int .u8 255, .int .u8 254, .int .u8 65, .int .u8 0] rfl (by decide)).rd
  have HM := Lib.hid (mark_any [255, 254, 65, 0] _ 4 4 _ _ hr1 (Nat.le_refl _) (Nat.le_refl _))
  rw [show markP [255, 254, 65, 0] = (2, 2) from by decide] at HM
  have HB0 := Lib.hid (below_al (Below.refl _ w) (.cells #[.int .u8 255, .int .u8 254, .int .u8 65, .int .u8 0] 5))
  clear hr1
  go_enter Try.func7, Try.ntmps7
  go_wp2_with fail
  refine HM.out.mono ?_
  rintro e1 w1 ⟨rfl, hb1⟩
  have HB1 := Lib.hid (below_trans HB0.out hb1)
  have hr2 := (Own.lit w1 3 1 1 #[.int .i64 65] rfl (by decide)).rd
  have HE := Lib.hid (encode_any 3 [65] _ 1 1 _ _ hr2 (by omega) (Nat.le_refl _))
  rw [show encL 3 [65] = [0, 65] from by decide] at HE
  have HB2 := Lib.hid (HB1.out.alloc HB1.out.size (.cells #[.int .i64 65] 3))
  clear hb1 hr2
  go_wp2_with fail
  refine HE.out.mono ?_
  rintro e3 w3 ⟨v3, rfl, hn3⟩
  have kc0 := conv_own hn3.1
  have HB3 := Lib.hid (HB2.out.trans (hn3.2.1.mono HB2.out.size))
  obtain ⟨A3, c3, rfl, -, -⟩ := hn3.1.len_
  clear hn3
  have kc : (convert 24 9 (.slice A3 2 c3)).run Try.prog w3 = .ok (.string ⟨#[0, 65]⟩) w3 := kc0
  clear kc0
  go_wp2_with fail
  go_ret
  exact ⟨rfl, HB3.out⟩
end Go.Proofs.Ytkibjjndeimikaa
