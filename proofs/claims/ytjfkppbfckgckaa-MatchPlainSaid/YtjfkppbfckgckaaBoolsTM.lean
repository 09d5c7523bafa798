/-
  How a slice of bools reads as it came in; no condition beyond those that each theorem states.
-/
import Derived.Test.YtjfkppbfckgckaaG01
import Derived.Deep.Slices
import Derived.Deep.Fields
import Derived.ChangeShapes
import Derived.WideShapes
set_option linter.unusedVariables false
set_option linter.unusedSimpArgs false
namespace Go.Proofs.Ytjfkppbfckgckaa
open Go.RowKit Go.Rb
section
open Go.ChangeShapes Go.WideShapes Go.ChangeAt Go.Deep
variable {H : Type} {enc : TypeId × Value → H} {w : World} {base : Nat} {spare : Nat → Bool} {held : Bool}
theorem open_bools {fuel : Nat} {A : Option Addr} {len cap : Nat} {x : DataW H × List MemPlace}
    (h : DataW.trod enc Try.prog w base spare held fuel 30 [.slice A len cap] = some x) :
    ∃ bs : List Bool, bs.length = len ∧ len ≤ cap ∧ Rd w w.heap.size 1 A len (bs.map Value.bool) := by
  rcases open_slice Try.underlying30 h with ⟨hcs, hx⟩ | ⟨a, l, c, m, n, D, Pl, hcs, hb, hl, hm, hmm, hx, hi⟩
  · simp at hcs
    obtain ⟨rfl, rfl, rfl⟩ := hcs
    exact ⟨[], rfl, by omega, rfl, fun h0 => absurd h0 (by omega)⟩
  · simp at hcs
    obtain ⟨rfl, rfl, rfl⟩ := hcs
    have hC : Try.prog.cellsOf 4 = 1 := by kernel_rfl
    have hlm : len ≤ m := by rw [hmm]; split <;> omega
    have hex : ∀ j, ∃ b : Bool, j < len → w.cell? (a.add j) = some (.bool b) := by
      intro j
      by_cases hj : j < len
      · obtain ⟨cs', hc, ht'⟩ := hi j (by omega)
        rw [hC] at hc
        obtain ⟨b, rfl, -⟩ := DataW.trod_bool Try.underlying4 ht'
        obtain ⟨_, _, hat⟩ := World.cells?_some hc
        have := hat 0 (by omega)
        refine ⟨b, fun _ => ?_⟩
        rw [add_zero_] at this
        simpa using this
      · exact ⟨false, fun h => absurd h hj⟩
    obtain ⟨f, hf⟩ : ∃ f : Nat → Bool, ∀ j, j < len → w.cell? (a.add j) = some (.bool (f j)) := ⟨fun j => (hex j).choose, fun j => (hex j).choose_spec⟩
    refine ⟨(List.range len).map f, by simp, hl, by simp, fun h0 => ?_⟩
    have h00 := hf 0 h0
    rw [add_zero_] at h00
    have hp := plain_of_cell h00
    have hbl := World.block_lt_of_cell? w _ h00
    refine ⟨a.block, a.off, by rw [← hp], hbl, fun j hj => ?_⟩
    have hj' : j < len := by omega
    have := hf j hj'
    rw [hp, Go.Rb.add_plain] at this
    rw [this]
    simp [hj']
end
end Go.Proofs.Ytjfkppbfckgckaa
