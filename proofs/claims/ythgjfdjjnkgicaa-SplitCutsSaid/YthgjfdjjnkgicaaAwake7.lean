/-
  The document's example; no condition beyond those that each theorem states.
-/
import Derived.Test.YthgjfdjjnkgicaaSame7
namespace Go.Proofs.Ythgjfdjjnkgicaa
open Go.RowKit Go.Rb
attribute [local irreducible] Go.wpQuiet

theorem al_ex : al 9 [97, 13, 10, 98] = ([⟨0, 0, [97]⟩, ⟨1, 3, [98]⟩], 0) := by kernel_rfl
set_option maxHeartbeats 2000000 in
theorem awake_any (w : World) : Calls Try.prog 7 #[] w fun e w' => e = .returned (.bool true) ∧ Below w.heap.size w w' := by
  have HA := Lib.hid (all_any 9 [97, 13, 10, 98] w (by decide) (by decide) (by decide))
  rw [al_ex] at HA
  unfold mk at HA
  go_enter Try.func7, Try.ntmps7
  go_wp2_with (go_at_call 8; refine HA.out.mono ?_; rintro e1 w1 ⟨v1, rfl, hown1, -, hb1⟩; obtain ⟨A1, cv1, rfl, -, -⟩ := hown1.len_; obtain ⟨pa, po, rfl, -, hcell⟩ := hown1.rd.2 (by decide); (have x0 := hcell 0 (by decide)); (have x1 := hcell 1 (by decide)); (have x2 := hcell 2 (by decide)); (have x3 := hcell 3 (by decide)); (have x4 := hcell 4 (by decide)); (have x5 := hcell 5 (by decide)); simp only [rcs, rc, nV, List.flatMap_cons, List.flatMap_nil, List.cons_append, List.nil_append, List.getElem?_cons_zero, List.getElem?_cons_succ, Nat.add_zero, mk] at x0 x1 x2 x3 x4 x5; have HB1 := Lib.hid hb1; clear hb1 hown1 hcell)
  go_ret
  exact ⟨rfl, HB1.out⟩
end Go.Proofs.Ythgjfdjjnkgicaa
