/-
  How the three numbers of ModeLines read as they came in; no condition beyond those that each theorem states.
-/
import Derived.Test.YtbgmdjceecbbhaaDoorRowsT
namespace Go.Proofs.YtbgmdjceecbbhaaDoor
open Go.RowKit Go.Rb
section
open Go.ChangeShapes Go.WideShapes Go.ChangeAt Go.Deep
variable {H : Type} {enc : TypeId × Value → H} {w : World} {base b0 : Nat} {spare : Nat → Bool} {held : Bool}
theorem open_how {r : Reach} {fuel : Nat} {v : Value} {x : DataW H × List MemPlace} (hv : Value.okWide Tryd.prog w r b0 42 v)
    (h : DataW.trod enc Tryd.prog w base spare held fuel 42 v.cells.toList = some x) : ∃ a b c : Int, v = .agg #[.int .i64 a, .int .i64 b, .int .i64 c] := by
  unfold Value.okWide at hv
  rw [Tryd.underlying42] at hv
  obtain ⟨cs, rfl, hsz, -⟩ := hv
  have c3 : Tryd.prog.cellsOf 42 = 3 := by kernel_rfl
  have c1 : Tryd.prog.cellsOf 3 = 1 := by kernel_rfl
  rw [c3] at hsz
  obtain ⟨v0, v1, v2, rfl⟩ : ∃ v0 v1 v2, cs = #[v0, v1, v2] := by
    match cs, hsz with
    | ⟨[v0, v1, v2]⟩, _ => exact ⟨_, _, _, rfl⟩
  obtain ⟨xs, m, -, -, -, hl, hi⟩ := DataW.trod_array Tryd.underlying42 h
  have g : ∀ i (hi3 : i < 3), ∃ y, DataW.trod enc Tryd.prog w base spare held m 3 ((#[v0, v1, v2].toList.drop i).take 1) = some y := fun i hi3 => by
    have := hi i hi3
    rw [c1, Nat.mul_one, List.getElem?_eq_getElem (by omega)] at this
    exact ⟨_, this⟩
  obtain ⟨y0, g0⟩ := g 0 (by decide)
  obtain ⟨y1, g1⟩ := g 1 (by decide)
  obtain ⟨y2, g2⟩ := g 2 (by decide)
  obtain ⟨z0, rfl, -⟩ := int_cell g0
  obtain ⟨z1, rfl, -⟩ := int_cell g1
  obtain ⟨z2, rfl, -⟩ := int_cell g2
  exact ⟨z0, z1, z2, rfl⟩
end
end Go.Proofs.YtbgmdjceecbbhaaDoor
