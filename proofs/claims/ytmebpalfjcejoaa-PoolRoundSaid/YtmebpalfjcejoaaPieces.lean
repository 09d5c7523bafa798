/-
  Slices of slices of octets that came in as an argument; no condition beyond those that each theorem states.
-/
import Derived.Test.YtmebpalfjcejoaaBytes
namespace Go.Proofs.Ytmebpalfjcejoaa
open Go.RowKit Go.Rb

/-- Each value is a slice that reads as that piece, below block B. -/
def PR (w : World) (B : Nat) (vs : List Value) (ps : List (List UInt8)) : Prop :=
  vs.length = ps.length ∧ ∀ i, i < ps.length → ∃ A c, vs[i]? = some (.slice A (ps.getD i []).length c) ∧ (ps.getD i []).length ≤ c ∧ Rd w B 1 A (ps.getD i []).length ((ps.getD i []).map bV)
theorem PR.below {w w' : World} {B : Nat} {vs : List Value} {ps : List (List UInt8)} (h : PR w B vs ps) (hb : Below B w w') : PR w' B vs ps :=
  ⟨h.1, fun i hi => by obtain ⟨A, c, h1, h2, h3⟩ := h.2 i hi; exact ⟨A, c, h1, h2, h3.below hb⟩⟩

section
open Go.ChangeShapes Go.WideShapes Go.ChangeAt Go.Deep
theorem open_pieces {H : Type} {enc : TypeId × Value → H} {w : World} {base : Nat} {spare : Nat → Bool} {held : Bool} {fuel : Nat} {A : Option Addr} {len cap : Nat} {x : DataW H × List MemPlace}
    (h : DataW.trod enc Try.prog w base spare held fuel 33 [.slice A len cap] = some x) :
    ∃ (vs : List Value) (ps : List (List UInt8)), ps.length = len ∧ len ≤ cap ∧ cap ≤ maxLen ∧ Rd w w.heap.size 1 A len vs ∧ PR w w.heap.size vs ps := by
  rcases open_slice1 Try.underlying33 (by kernel_rfl) h with ⟨hcs, -⟩ | ⟨a, l, c, m, n, V, D, Pl, hcs, hb, hl, hm, hmm, hx, hV⟩
  · simp at hcs
    obtain ⟨rfl, rfl, rfl⟩ := hcs
    exact ⟨[], [], rfl, by omega, by simp [maxLen], ⟨rfl, fun h => absurd h (by omega)⟩, rfl, fun i hi => absurd hi (by simp)⟩
  · simp at hcs
    obtain ⟨rfl, rfl, rfl⟩ := hcs
    have hlm : len ≤ m := by rw [hmm]; split <;> omega
    have hP : ∀ i, ∃ p : List UInt8, i < len → ∃ A' c', V i = .slice A' p.length c' ∧ p.length ≤ c' ∧ Rd w w.heap.size 1 A' p.length (p.map bV) := by
      intro i
      by_cases hi : i < len
      · obtain ⟨hc, ht⟩ := hV i (by omega)
        have hv : ∃ A' l' c', V i = .slice A' l' c' := by
          rcases open_slice Try.underlying22 ht with ⟨h0, -⟩ | ⟨a', l', c', _, _, _, _, h0, _⟩
          · exact ⟨none, 0, 0, by simpa using h0⟩
          · exact ⟨some a', l', c', by simpa using h0⟩
        obtain ⟨A', l', c', hv⟩ := hv
        rw [hv] at ht
        obtain ⟨bs, hbl, hlc, -, hr⟩ := open_bytes ht
        subst hbl
        exact ⟨bs, fun _ => ⟨A', c', hv, hlc, hr⟩⟩
      · exact ⟨[], fun h => absurd h hi⟩
    refine ⟨(List.range len).map V, (List.range len).map fun i => (hP i).choose, by simp, hl, hm, ⟨by simp, fun h0 => ?_⟩, by simp, fun i hi => ?_⟩
    · have h00 := (hV 0 (by omega)).1
      rw [add_zero_] at h00
      have hp := plain_of_cell h00
      refine ⟨a.block, a.off, by rw [← hp], World.block_lt_of_cell? w _ h00, fun j hj => ?_⟩
      have := (hV j (by omega)).1
      rw [hp, Rb.add_plain] at this
      rw [this]
      simp [show j < len by omega]
    · have hi' : i < len := by simpa using hi
      obtain ⟨A', c', h1, h2, h3⟩ := (hP i).choose_spec hi'
      have e : ((List.range len).map fun i => (hP i).choose).getD i [] = (hP i).choose := by rw [List.getD_eq_getElem?_getD, List.getElem?_map, List.getElem?_range hi']; rfl
      rw [e]
      exact ⟨A', c', by rw [List.getElem?_map, List.getElem?_range hi']; exact congrArg some h1, h2, h3⟩
end

end Go.Proofs.Ytmebpalfjcejoaa
