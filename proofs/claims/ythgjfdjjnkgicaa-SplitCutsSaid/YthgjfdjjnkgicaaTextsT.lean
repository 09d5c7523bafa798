/-
  How slices of texts read as they came in; no condition beyond those that each theorem states.
-/
import Derived.Test.YthgjfdjjnkgicaaAwake7
import Derived.Deep.Strs
namespace Go.Proofs.Ythgjfdjjnkgicaa
open Go.RowKit Go.Rb
open Go.ChangeShapes Go.WideShapes Go.ChangeAt Go.Deep

theorem open_texts {H : Type} {enc : TypeId × Value → H} {w : World} {base : Nat} {spare : Nat → Bool} {held : Bool} {fuel : Nat} {A : Option Addr} {len cap : Nat} {x : DataW H × List MemPlace}
    (h : DataW.trod enc Try.prog w base spare held fuel 34 [.slice A len cap] = some x) :
    ∃ ts : List ByteArray, ts.length = len ∧ len ≤ cap ∧ Rd w w.heap.size 1 A len (ts.map Value.string) := by
  rcases open_strs Try.underlying34 Try.underlying9 (by kernel_rfl) h with ⟨hcs, -⟩ | ⟨a, l, c, m, Sx, hcs, hb, hl, hm, hmm, hx, hV⟩
  · simp at hcs
    obtain ⟨rfl, rfl, rfl⟩ := hcs
    exact ⟨[], rfl, by omega, ⟨rfl, fun h => absurd h (by omega)⟩⟩
  · simp at hcs
    obtain ⟨rfl, rfl, rfl⟩ := hcs
    have hlm : len ≤ m := by rw [hmm]; split <;> omega
    refine ⟨(List.range len).map Sx, by simp, hl, ⟨by simp, fun h0 => ?_⟩⟩
    have h00 := (hV 0 (by omega)).1
    rw [add_zero_] at h00
    have hp := plain_of_cell h00
    refine ⟨a.block, a.off, by rw [← hp], World.block_lt_of_cell? w _ h00, fun j hj => ?_⟩
    have := (hV j (by omega)).1
    rw [hp, Rb.add_plain] at this
    rw [this, List.map_map, List.getElem?_map, List.getElem?_range (by omega)]
    rfl
end Go.Proofs.Ythgjfdjjnkgicaa
