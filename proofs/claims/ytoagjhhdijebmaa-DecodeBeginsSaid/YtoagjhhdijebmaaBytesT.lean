/-
  How a slice of octets reads as it came in; no condition beyond those that each theorem states.
-/
import Derived.Test.YtoagjhhdijebmaaCode5
namespace Go.Proofs.Ytoagjhhdijebmaa
open Go.RowKit Go.Rb
section
open Go.ChangeShapes Go.WideShapes Go.ChangeAt Go.Deep
theorem open_bytes {H : Type} {enc : TypeId × Value → H} {w : World} {base : Nat} {spare : Nat → Bool} {held : Bool} {fuel : Nat} {A : Option Addr} {len cap : Nat} {x : DataW H × List MemPlace}
    (h : DataW.trod enc Try.prog w base spare held fuel 22 [.slice A len cap] = some x) :
    ∃ bs : List UInt8, bs.length = len ∧ len ≤ cap ∧ cap ≤ maxLen ∧ Rd w w.heap.size 1 A len (bs.map bV) := by
  obtain ⟨zs, hz, hc, hm, hr, hw⟩ := open_intslice Try.underlying22 Try.underlying5 (by kernel_rfl) h
  refine ⟨zs.map by_, by simpa using hz, hc, hm, ?_⟩
  have : (zs.map by_).map bV = zs.map (Value.int .u8) := by
    rw [List.map_map]
    apply List.map_congr_left
    intro z hzm
    have := hw z hzm
    have hb : 0 ≤ z ∧ z ≤ 255 := by simpa [Lit.wf, IntKind.min, IntKind.max, IntKind.signed, IntKind.bits] using this
    exact bV_by z hb.1 (by omega)
  rw [this]
  exact hr
end
end Go.Proofs.Ytoagjhhdijebmaa
