/-
  New slices of numbers; no condition beyond those that each theorem states.
-/
import Derived.Test.YtgfienopijlnkaaRegion
namespace Go.Proofs.Ytgfienopijlnkaa
open Go.RowKit Go.Rb

theorem info3 : (Try.prog.info? 3).map (fun i => (i.zero, i.size, i.bytes)) = some (some (.int .i64 0), 1, 8) := by kernel_rfl
def iV (z : Int) : Value := .int .i64 z

def NewI (w w' : World) (v : Value) (zs : List Int) : Prop :=
  Own w' 3 1 v zs.length (zs.map iV) ∧ Below w.heap.size w w' ∧ ∀ k, v.ownBlock = some k → w.heap.size ≤ k
def RetNewI (w : World) (zs : List Int) (e : Ending) (w' : World) : Prop := ∃ v, e = .returned v ∧ NewI w w' v zs

theorem newI_1 (w : World) (z : Int) : NewI w (w.alloc (.cells #[.int .i64 z] 3)) (.slice (some ⟨w.heap.size, 0, none⟩) 1 1) [z] :=
  ⟨by have := Own.lit w 3 1 1 #[.int .i64 z] rfl (by decide); simpa [iV] using this, below_al (Below.refl _ _) _, by simp [Value.ownBlock]⟩
theorem newI_2 (w : World) (z y : Int) : NewI w (w.alloc (.cells #[.int .i64 z, .int .i64 y] 3)) (.slice (some ⟨w.heap.size, 0, none⟩) 2 2) [z, y] :=
  ⟨by have := Own.lit w 3 1 2 #[.int .i64 z, .int .i64 y] rfl (by decide); simpa [iV] using this, below_al (Below.refl _ _) _, by simp [Value.ownBlock]⟩

theorem Own.rdI {w : World} {e : TypeId} {n : Nat} {v : Value} {xs : List Value} (h : Own w e 1 v n xs) : ∃ A cap, v = .slice A n cap ∧ Rd w w.heap.size 1 A n xs ∧ n ≤ cap := by
  obtain ⟨A, cap, rfl, hc, _⟩ := h.len_
  exact ⟨A, cap, rfl, h.rd, hc⟩
end Go.Proofs.Ytgfienopijlnkaa
